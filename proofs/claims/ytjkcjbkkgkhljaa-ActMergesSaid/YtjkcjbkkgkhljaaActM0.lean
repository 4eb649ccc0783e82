/- A part of a law's proof: ActM0. -/
import Derived.KernelRfl
import Derived.Test.YtjkcjbkkgkhljaaActBw
import Derived.Test.YtjkcjbkkgkhljaaActTy
import Derived.Test.YtjkcjbkkgkhljaaActXTab
import Derived.Test.YtjkcjbkkgkhljaaSvLoop
set_option linter.constructorNameAsVariable false
namespace Go.Proofs.Act
open Go Go.Ab Go.Proofs
set_option linter.unusedVariables false
set_option linter.unusedSimpArgs false
set_option maxHeartbeats 4000000
set_option maxRecDepth 100000
-- 6 drover/droverref06.Same
def H6 : List (List Nat × Hint) := [([26012], ⟨[5, 1, 0], [], [], [], [], [], [], 0, []⟩)]
inductive L6 where
  | h0 (a0 : List Action) (a1 : List Action) (i2 : Int)
noncomputable def m6 : L6 -> Trip Th
  | .h0 (a0) (a1) (i2) => ([(.lp 26 c6_5), (.blk 0), (.seq 26 c6_7)], [(5, (.i .i64 (i2))), (1, (.lst 29 (a1))), (0, (.lst 29 (a0)))], [])
noncomputable def g6 : L6 -> Cm (L6 ⊕ Bool)
  | .h0 (a0) (a1) (i2) => (.ite (decide (i2 < (↑a0.length : Int))) (.chk ((0 : Int) <= i2) (.get (a0[i2.toNat]?) fun (y3 : Action) => (.chk ((0 : Int) <= i2) (.get (a1[i2.toNat]?) fun (y4 : Action) => (.ite (!(decide (y3.Kind = y4.Kind) && (decide (y3.Field = y4.Field) && decide (y3.Value = y4.Value)))) (.ret (.inr (Bool.false)))
  (.ret (.inl (.h0 (a0) (a1) (IntKind.i64.wrap (i2 + 1))))))))))
  (.ret (.inr (Bool.true))))
theorem E6 : ∀ s, headC C tab kn0 i6.rs H6 .b 5000 (m6 s) = (g6 s).map (Sum.map m6 (fun (r : Bool) => (((.b (r))) : SV Th)))
  | .h0 (a0) (a1) (i2) => by kernel_rfl
noncomputable def s6 (a0 : List Action) (a1 : List Action) : Cm (L6 ⊕ Bool) :=
  (.ite (!decide ((↑a0.length : Int) = (↑a1.length : Int))) (.ret (.inr (Bool.false)))
  (.ret (.inl (.h0 (a0) (a1) (0)))))
theorem ES6 (y : ATup Th [.l 29, .l 29]) : startC C tab kn0 i6 H6 .b 5000 (encAs G [.l 29, .l 29] y) = (s6 (y.1) (y.2.1)).map (Sum.map m6 (fun (r : Bool) => (((.b (r))) : SV Th))) := by kernel_rfl
noncomputable def f6 (a0 : List Action) (a1 : List Action) : Option (Bool) := runO g6 (s6 (a0) (a1))
theorem Q6 (y : ATup Th [.l 29, .l 29]) (r : Bool) (h : f6 (y.1) (y.2.1) = some r) : PCall Try.prog C 6 (encAs G [.l 29, .l 29] y) (· = (fun (r : Bool) => (((.b (r))) : SV Th)) r) := runO_sound gok.ok ko0 tabKnows E6 k6 rfl (by kernel_rfl) (by kernel_rfl) (ES6 y) h
noncomputable def knActM0_6 : KnownF Th := (6, knS G [.l 29, .l 29] fun y => .get (f6 (y.1) (y.2.1)) fun r => .ret ((fun (r : Bool) => (((.b (r))) : SV Th)) r)) :: kn0
theorem koActM0_6 : KnownOk Try.prog C knActM0_6 := KnownOk.addS gok ko0 (scal_opt (enc := fun (r : Bool) => (((.b (r))) : SV Th)) (fun _ => rfl)) (known_opt (enc := fun (r : Bool) => (((.b (r))) : SV Th)) Q6 (fun _ => rfl))
-- 17 drover/droverref06.place
noncomputable def u17 (a0 : Action) : Cm (Int) :=
  (.ite (decide (a0.Kind = 4)) (.ret (0))
  (.ite (decide (a0.Kind = 3)) (.ret (1))
  (.ite (decide (a0.Kind = 5)) (.ret (2))
  (.ite (decide (a0.Kind = 2)) (.ret (3))
  (.ite (decide (a0.Kind = 1)) (.ret (4))
  (.ret (-1)))))))
noncomputable def f17 (a0 : Action) : Int := (u17 (a0)).tot default
theorem E17 (y : ATup Th [.t 29]) : startC C tab knActM0_6 i17 [] (.i .i64) 5000 (encAs G [.t 29] y) = (u17 (y.1)).map (fun r => .inr ((fun (r : Int) => (((.i .i64 (r))) : SV Th)) r)) := by kernel_rfl
theorem Q17 (y : ATup Th [.t 29]) : PCall Try.prog C 17 (encAs G [.t 29] y) (· = (fun (r : Int) => (((.i .i64 (r))) : SV Th)) (f17 (y.1))) := one_sound gok.ok koActM0_6 tabKnows k17 (by kernel_rfl) (by kernel_rfl) (E17 y) (Cm.den_tot default (by kernel_rfl) rfl)
noncomputable def knActM0_17 : KnownF Th := (17, knS G [.t 29] fun y => .ret ((fun (r : Int) => (((.i .i64 (r))) : SV Th)) (f17 (y.1)))) :: knActM0_6
theorem koActM0_17 : KnownOk Try.prog C knActM0_17 := KnownOk.addS gok koActM0_6 (scal_tot (enc := fun (r : Int) => (((.i .i64 (r))) : SV Th)) (fun _ => rfl)) (known_tot (enc := fun (r : Int) => (((.i .i64 (r))) : SV Th)) Q17 (fun _ => rfl))
-- 18 drover/droverref06.alike
noncomputable def u18 (a0 : Action) (a1 : Action) : Cm (Bool) :=
  (.ite (decide (a0.Kind = a1.Kind)) (.ite (!decide (a0.Kind = 5)) (.ret (Bool.true))
  (.ret (decide (a0.Field = a1.Field))))
  (.ret (Bool.false)))
noncomputable def f18 (a0 : Action) (a1 : Action) : Bool := (u18 (a0) (a1)).tot default
theorem E18 (y : ATup Th [.t 29, .t 29]) : startC C tab knActM0_17 i18 [] .b 5000 (encAs G [.t 29, .t 29] y) = (u18 (y.1) (y.2.1)).map (fun r => .inr ((fun (r : Bool) => (((.b (r))) : SV Th)) r)) := by kernel_rfl
theorem Q18 (y : ATup Th [.t 29, .t 29]) : PCall Try.prog C 18 (encAs G [.t 29, .t 29] y) (· = (fun (r : Bool) => (((.b (r))) : SV Th)) (f18 (y.1) (y.2.1))) := one_sound gok.ok koActM0_17 tabKnows k18 (by kernel_rfl) (by kernel_rfl) (E18 y) (Cm.den_tot default (by kernel_rfl) rfl)
noncomputable def knActM0_18 : KnownF Th := (18, knS G [.t 29, .t 29] fun y => .ret ((fun (r : Bool) => (((.b (r))) : SV Th)) (f18 (y.1) (y.2.1)))) :: knActM0_17
theorem koActM0_18 : KnownOk Try.prog C knActM0_18 := KnownOk.addS gok koActM0_17 (scal_tot (enc := fun (r : Bool) => (((.b (r))) : SV Th)) (fun _ => rfl)) (known_tot (enc := fun (r : Bool) => (((.b (r))) : SV Th)) Q18 (fun _ => rfl))
-- 19 drover/droverref06.ahead
noncomputable def u19 (a0 : Action) (a1 : Action) : Cm (Bool) :=
  (.ite (decide (f17 a0 < f17 a1)) (.ret (Bool.true))
  (.ite (decide (f17 a0 = f17 a1)) (.ite (decide (a0.Kind = 5)) (.ret (decide (a0.Field < a1.Field)))
  (.ret (Bool.false)))
  (.ret (Bool.false))))
noncomputable def f19 (a0 : Action) (a1 : Action) : Bool := (u19 (a0) (a1)).tot default
theorem E19 (y : ATup Th [.t 29, .t 29]) : startC C tab knActM0_18 i19 [] .b 5000 (encAs G [.t 29, .t 29] y) = (u19 (y.1) (y.2.1)).map (fun r => .inr ((fun (r : Bool) => (((.b (r))) : SV Th)) r)) := by kernel_rfl
theorem Q19 (y : ATup Th [.t 29, .t 29]) : PCall Try.prog C 19 (encAs G [.t 29, .t 29] y) (· = (fun (r : Bool) => (((.b (r))) : SV Th)) (f19 (y.1) (y.2.1))) := one_sound gok.ok koActM0_18 tabKnows k19 (by kernel_rfl) (by kernel_rfl) (E19 y) (Cm.den_tot default (by kernel_rfl) rfl)
noncomputable def knActM0_19 : KnownF Th := (19, knS G [.t 29, .t 29] fun y => .ret ((fun (r : Bool) => (((.b (r))) : SV Th)) (f19 (y.1) (y.2.1)))) :: knActM0_18
theorem koActM0_19 : KnownOk Try.prog C knActM0_19 := KnownOk.addS gok koActM0_18 (scal_tot (enc := fun (r : Bool) => (((.b (r))) : SV Th)) (fun _ => rfl)) (known_tot (enc := fun (r : Bool) => (((.b (r))) : SV Th)) Q19 (fun _ => rfl))
-- 8 drover/droverref06.Merge
def H8 : List (List Nat × Hint) := [([88019], ⟨[49, 48, 43, 47, 46, 44, 45, 5, 42, 40, 41, 7, 6], [], [(6, 29)], [], [], [5, 6], [], 0, []⟩),
  ([88033, 88019], ⟨[9, 5, 7, 8, 6, 66, 61, 65, 64, 62, 63, 60, 58, 59], [], [], [], [8], [5], [], 0, []⟩),
  ([88054, 88019], ⟨[10, 49, 48, 43, 47, 46, 44, 45, 5, 42, 40, 41, 7, 6], [], [], [], [], [5], [], 0, []⟩)]
inductive L8 where
  | h0 (a0 : List Action) (a1 : List Action) (i46 : Int) (l57 : List Action)
  | h1 (a0 : List Action) (a1 : List Action) (i44 : Int) (b45 : Bool) (i50 : Int) (l67 : List Action)
  | h2 (a0 : List Action) (a1 : List Action) (i55 : Int) (i60 : Int) (l71 : List Action)
noncomputable def m8 : L8 -> Trip Th
  | .h0 (a0) (a1) (i46) (l57) => ([(.lp 88 c8_25), (.blk 0), (.seq 88 c8_27)], [(49, .any), (48, .any), (43, .any), (47, .any), (46, .any), (44, .any), (45, .any), (5, (.sl 29 0 0 ((a0 ++ a1).length) .none)), (42, .any), (40, .any), (41, .any), (7, (.i .i64 (i46))), (6, (.sl 29 1 0 (l57.length) .none))], [(.arr 29 (a0 ++ a1)), (.arr 29 (l57))])
  | .h1 (a0) (a1) (i44) (b45) (i50) (l67) => ([(.lp 88 c8_7), (.blk 2), (.seq 88 c8_21), (.blk 1), (.seq 88 c8_23), (.lp 88 c8_25), (.blk 0), (.seq 88 c8_27)], [(9, (.i .i64 (i44))), (5, (.sl 29 0 0 ((a0 ++ a1).length) .none)), (7, (.i .i64 (i50))), (8, (.b (b45))), (6, (.sl 29 1 0 (l67.length) .none)), (66, .any), (61, .any), (65, .any), (64, .any), (62, .any), (63, .any), (60, .any), (58, .any), (59, .any)], [(.arr 29 (a0 ++ a1)), (.arr 29 (l67))])
  | .h2 (a0) (a1) (i55) (i60) (l71) => ([(.lp 88 c8_14), (.blk 4), (.seq 88 c8_18), (.blk 1), (.seq 88 c8_23), (.lp 88 c8_25), (.blk 0), (.seq 88 c8_27)], [(10, (.i .i64 (i55))), (49, .any), (48, .any), (43, .any), (47, .any), (46, .any), (44, .any), (45, .any), (5, (.sl 29 0 0 ((a0 ++ a1).length) .none)), (42, .any), (40, .any), (41, .any), (7, (.i .i64 (i60))), (6, (.sl 29 1 0 (l71.length) .none))], [(.arr 29 (a0 ++ a1)), (.arr 29 (l71))])
noncomputable def g8 : L8 -> Cm (L8 ⊕ (List Action))
  | .h0 (a0) (a1) (i46) (l57) => (.ite (decide (i46 < (↑(a0 ++ a1).length : Int))) (.chk ((0 : Int) <= i46 ∧ i46 < (↑(a0 ++ a1).length : Int)) (.get ((a0 ++ a1)[(0 : Nat) + i46.toNat]?) fun (y65 : Action) => (.chk ((a0 ++ a1).length = (a0 ++ a1).length) (.ret (.inl (.h1 (a0) (a1) (IntKind.i64.wrap (i46 + 1)) (decide ((0 : Int) <= f17 y65)) (i46) (l57)))))))
  (.chk ((0 : Nat) + l57.length <= l57.length) (.ret (.inr (List.take l57.length (List.drop (0 : Nat) l57))))))
  | .h1 (a0) (a1) (i44) (b45) (i50) (l67) => (.ite (decide (i44 < (↑(a0 ++ a1).length : Int))) (.ite (b45) (.chk ((0 : Int) <= i50 ∧ i50 < (↑(a0 ++ a1).length : Int)) (.get ((a0 ++ a1)[(0 : Nat) + i50.toNat]?) fun (y68 : Action) => (.chk ((0 : Int) <= i44 ∧ i44 < (↑(a0 ++ a1).length : Int)) (.get ((a0 ++ a1)[(0 : Nat) + i44.toNat]?) fun (y69 : Action) => (.chk ((a0 ++ a1).length = (a0 ++ a1).length) (.ret (.inl (.h1 (a0) (a1) (IntKind.i64.wrap (i44 + 1)) (!f18 y68 y69) (i50) (l67)))))))))
  (.chk ((a0 ++ a1).length = (a0 ++ a1).length) (.ret (.inl (.h1 (a0) (a1) (IntKind.i64.wrap (i44 + 1)) (Bool.false) (i50) (l67))))))
  (.ite (!b45) (.chk ((a0 ++ a1).length = (a0 ++ a1).length) (.chk (l67.length = l67.length) (.ret (.inl (.h0 (a0) (a1) (IntKind.i64.wrap (i50 + 1)) (l67))))))
  (.chk ((a0 ++ a1).length = (a0 ++ a1).length) (.ret (.inl (.h2 (a0) (a1) (0) (i50) (l67)))))))
  | .h2 (a0) (a1) (i55) (i60) (l71) => (.ite (decide (i55 < (↑l71.length : Int))) (.chk ((0 : Int) <= i55 ∧ i55 < (↑l71.length : Int)) (.get (l71[(0 : Nat) + i55.toNat]?) fun (y72 : Action) => (.chk ((0 : Int) <= i60 ∧ i60 < (↑(a0 ++ a1).length : Int)) (.get ((a0 ++ a1)[(0 : Nat) + i60.toNat]?) fun (y73 : Action) => (.ite (f19 y72 y73) (.chk ((a0 ++ a1).length = (a0 ++ a1).length) (.ret (.inl (.h2 (a0) (a1) (IntKind.i64.wrap (i55 + 1)) (i60) (l71)))))
  (.chk ((0 : Int) <= i55 ∧ i55 <= (↑(List.brecOn.go l71 List.length._f).1 : Int)) (.chk ((0 : Nat) + (i55.toNat - (0 : Nat)) <= l71.length) (.chk ((List.take (i55.toNat - (0 : Nat)) (List.drop (0 : Nat) l71)).length * (24 : Nat) <= nat_lit 140737488355328 ∧ (List.take (i55.toNat - (0 : Nat)) (List.drop (0 : Nat) l71)).length <= nat_lit 140737488355328) (.chk ((0 : Int) <= i60 ∧ i60 < (↑(a0 ++ a1).length : Int)) (.get ((a0 ++ a1)[(0 : Nat) + i60.toNat]?) fun (y74 : Action) => (.chk ((1 : Nat) <= [y74].length) (.chk ((List.take (i55.toNat - (0 : Nat)) (List.drop (0 : Nat) l71)).length = (List.take (i55.toNat - (0 : Nat)) (List.drop (0 : Nat) l71)).length ∧ ((List.take (i55.toNat - (0 : Nat)) (List.drop (0 : Nat) l71)).length + (List.take (1 : Nat) (List.drop (0 : Nat) [y74])).length) * (24 : Nat) <= nat_lit 140737488355328 ∧ (List.take (i55.toNat - (0 : Nat)) (List.drop (0 : Nat) l71)).length + (List.take (1 : Nat) (List.drop (0 : Nat) [y74])).length <= nat_lit 140737488355328) (.chk ((0 : Int) <= i55 ∧ i55 <= (↑l71.length : Int)) (.chk ((0 : Nat) + i55.toNat + (l71.length - i55.toNat) <= l71.length) (.chk ((List.take (i55.toNat - (0 : Nat)) (List.drop (0 : Nat) l71) ++ List.take (1 : Nat) (List.drop (0 : Nat) [y74])).length = (List.take (i55.toNat - (0 : Nat)) (List.drop (0 : Nat) l71) ++ List.take (1 : Nat) (List.drop (0 : Nat) [y74])).length ∧ ((List.take (i55.toNat - (0 : Nat)) (List.drop (0 : Nat) l71) ++ List.take (1 : Nat) (List.drop (0 : Nat) [y74])).length + (List.take (l71.length - i55.toNat) (List.drop ((0 : Nat) + i55.toNat) l71)).length) * (24 : Nat) <= nat_lit 140737488355328 ∧ (List.take (i55.toNat - (0 : Nat)) (List.drop (0 : Nat) l71) ++ List.take (1 : Nat) (List.drop (0 : Nat) [y74])).length + (List.take (l71.length - i55.toNat) (List.drop ((0 : Nat) + i55.toNat) l71)).length <= nat_lit 140737488355328) (.chk ((a0 ++ a1).length = (a0 ++ a1).length) (.chk ((List.take (i55.toNat - (0 : Nat)) (List.drop (0 : Nat) l71) ++ List.take (1 : Nat) (List.drop (0 : Nat) [y74]) ++ List.take (l71.length - i55.toNat) (List.drop ((0 : Nat) + i55.toNat) l71)).length = (List.take (i55.toNat - (0 : Nat)) (List.drop (0 : Nat) l71) ++ List.take (1 : Nat) (List.drop (0 : Nat) [y74]) ++ List.take (l71.length - i55.toNat) (List.drop ((0 : Nat) + i55.toNat) l71)).length) (.ret (.inl (.h0 (a0) (a1) (IntKind.i64.wrap (i60 + 1)) (List.take (i55.toNat - (0 : Nat)) (List.drop (0 : Nat) l71) ++ List.take (1 : Nat) (List.drop (0 : Nat) [y74]) ++ List.take (l71.length - i55.toNat) (List.drop ((0 : Nat) + i55.toNat) l71))))))))))))))))))))))
  (.chk ((0 : Int) <= i55 ∧ i55 <= (↑(List.brecOn.go l71 List.length._f).1 : Int)) (.chk ((0 : Nat) + (i55.toNat - (0 : Nat)) <= l71.length) (.chk ((List.take (i55.toNat - (0 : Nat)) (List.drop (0 : Nat) l71)).length * (24 : Nat) <= nat_lit 140737488355328 ∧ (List.take (i55.toNat - (0 : Nat)) (List.drop (0 : Nat) l71)).length <= nat_lit 140737488355328) (.chk ((0 : Int) <= i60 ∧ i60 < (↑(a0 ++ a1).length : Int)) (.get ((a0 ++ a1)[(0 : Nat) + i60.toNat]?) fun (y75 : Action) => (.chk ((1 : Nat) <= [y75].length) (.chk ((List.take (i55.toNat - (0 : Nat)) (List.drop (0 : Nat) l71)).length = (List.take (i55.toNat - (0 : Nat)) (List.drop (0 : Nat) l71)).length ∧ ((List.take (i55.toNat - (0 : Nat)) (List.drop (0 : Nat) l71)).length + (List.take (1 : Nat) (List.drop (0 : Nat) [y75])).length) * (24 : Nat) <= nat_lit 140737488355328 ∧ (List.take (i55.toNat - (0 : Nat)) (List.drop (0 : Nat) l71)).length + (List.take (1 : Nat) (List.drop (0 : Nat) [y75])).length <= nat_lit 140737488355328) (.chk ((0 : Int) <= i55 ∧ i55 <= (↑l71.length : Int)) (.chk ((0 : Nat) + i55.toNat + (l71.length - i55.toNat) <= l71.length) (.chk ((List.take (i55.toNat - (0 : Nat)) (List.drop (0 : Nat) l71) ++ List.take (1 : Nat) (List.drop (0 : Nat) [y75])).length = (List.take (i55.toNat - (0 : Nat)) (List.drop (0 : Nat) l71) ++ List.take (1 : Nat) (List.drop (0 : Nat) [y75])).length ∧ ((List.take (i55.toNat - (0 : Nat)) (List.drop (0 : Nat) l71) ++ List.take (1 : Nat) (List.drop (0 : Nat) [y75])).length + (List.take (l71.length - i55.toNat) (List.drop ((0 : Nat) + i55.toNat) l71)).length) * (24 : Nat) <= nat_lit 140737488355328 ∧ (List.take (i55.toNat - (0 : Nat)) (List.drop (0 : Nat) l71) ++ List.take (1 : Nat) (List.drop (0 : Nat) [y75])).length + (List.take (l71.length - i55.toNat) (List.drop ((0 : Nat) + i55.toNat) l71)).length <= nat_lit 140737488355328) (.chk ((a0 ++ a1).length = (a0 ++ a1).length) (.chk ((List.take (i55.toNat - (0 : Nat)) (List.drop (0 : Nat) l71) ++ List.take (1 : Nat) (List.drop (0 : Nat) [y75]) ++ List.take (l71.length - i55.toNat) (List.drop ((0 : Nat) + i55.toNat) l71)).length = (List.take (i55.toNat - (0 : Nat)) (List.drop (0 : Nat) l71) ++ List.take (1 : Nat) (List.drop (0 : Nat) [y75]) ++ List.take (l71.length - i55.toNat) (List.drop ((0 : Nat) + i55.toNat) l71)).length) (.ret (.inl (.h0 (a0) (a1) (IntKind.i64.wrap (i60 + 1)) (List.take (i55.toNat - (0 : Nat)) (List.drop (0 : Nat) l71) ++ List.take (1 : Nat) (List.drop (0 : Nat) [y75]) ++ List.take (l71.length - i55.toNat) (List.drop ((0 : Nat) + i55.toNat) l71))))))))))))))))))
theorem E8 : ∀ s, headC C tab knActM0_19 i8.rs H8 (.lst 29) 5000 (m8 s) = (g8 s).map (Sum.map m8 (fun (r : (List Action)) => (((.lst 29 (r))) : SV Th)))
  | .h0 (a0) (a1) (i46) (l57) => by kernel_rfl
  | .h1 (a0) (a1) (i44) (b45) (i50) (l67) => by kernel_rfl
  | .h2 (a0) (a1) (i55) (i60) (l71) => by kernel_rfl
noncomputable def s8 (a0 : List Action) (a1 : List Action) : Cm (L8 ⊕ (List Action)) :=
  (.chk (a0.length * (24 : Nat) <= nat_lit 140737488355328 ∧ a0.length <= nat_lit 140737488355328) (.chk (a0.length = a0.length ∧ (a0.length + a1.length) * (24 : Nat) <= nat_lit 140737488355328 ∧ a0.length + a1.length <= nat_lit 140737488355328) (.chk ((a0 ++ a1).length = (a0 ++ a1).length) (.chk (@Eq Nat (@OfNat.ofNat Nat (nat_lit 0) (instOfNatNat (nat_lit 0))) (@List.length (Th (@OfNat.ofNat Nat (nat_lit 29) (instOfNatNat (nat_lit 29)))) (@List.nil (Th (@OfNat.ofNat Nat (nat_lit 29) (instOfNatNat (nat_lit 29))))))) (.ret (.inl (.h0 (a0) (a1) (0) ([]))))))))
theorem ES8 (y : ATup Th [.l 29, .l 29]) : startC C tab knActM0_19 i8 H8 (.lst 29) 5000 (encAs G [.l 29, .l 29] y) = (s8 (y.1) (y.2.1)).map (Sum.map m8 (fun (r : (List Action)) => (((.lst 29 (r))) : SV Th))) := by kernel_rfl
noncomputable def f8 (a0 : List Action) (a1 : List Action) : Option ((List Action)) := runO g8 (s8 (a0) (a1))
theorem Q8 (y : ATup Th [.l 29, .l 29]) (r : (List Action)) (h : f8 (y.1) (y.2.1) = some r) : PCall Try.prog C 8 (encAs G [.l 29, .l 29] y) (· = (fun (r : (List Action)) => (((.lst 29 (r))) : SV Th)) r) := runO_sound gok.ok koActM0_19 tabKnows E8 k8 rfl (by kernel_rfl) (by kernel_rfl) (ES8 y) h
noncomputable def knActM0_8 : KnownF Th := (8, knG G [.l 29, .l 29] fun y => .get (f8 (y.1) (y.2.1)) fun r => .ret ((fun (r : (List Action)) => (((.lst 29 (r))) : SV Th)) r)) :: knActM0_19
theorem koActM0_8 : KnownOk Try.prog C knActM0_8 := KnownOk.add gok koActM0_19 (known_opt (enc := fun (r : (List Go.Proofs.Act.Action)) => (((.lst 29 (r))) : SV Th)) Q8 (fun _ => rfl))
-- 28 slices.Index[[]int,int]
def H28 : List (List Nat × Hint) := [([19010], ⟨[8, 0, 1, 7], [], [], [], [], [], [], 0, []⟩)]
inductive L28 where
  | h0 (a0 : List Int) (a1 : Int) (i1 : Int)
noncomputable def m28 : L28 -> Trip Th
  | .h0 (a0) (a1) (i1) => ([(.lp 19 c28_5), (.blk 0), (.seq 19 c28_7)], [(8, (.i .i64 (i1))), (0, (.lst 3 (a0))), (1, (.i .i64 (a1))), (7, (.i .i64 ((↑a0.length : Int))))], [])
noncomputable def g28 : L28 -> Cm (L28 ⊕ Int)
  | .h0 (a0) (a1) (i1) => (.ite (decide (i1 < (↑a0.length : Int))) (.chk ((0 : Int) <= i1) (.get (a0[i1.toNat]?) fun (y2 : Int) => (.ite (decide (a1 = y2)) (.ret (.inr (i1)))
  (.ret (.inl (.h0 (a0) (a1) (IntKind.i64.wrap (i1 + 1))))))))
  (.ret (.inr (-1))))
theorem E28 : ∀ s, headC C tab knActM0_8 i28.rs H28 (.i .i64) 5000 (m28 s) = (g28 s).map (Sum.map m28 (fun (r : Int) => (((.i .i64 (r))) : SV Th)))
  | .h0 (a0) (a1) (i1) => by kernel_rfl
noncomputable def s28 (a0 : List Int) (a1 : Int) : Cm (L28 ⊕ Int) :=
  (.ret (.inl (.h0 (a0) (a1) (0))))
theorem ES28 (y : ATup Th [.l 3, .i .i64]) : startC C tab knActM0_8 i28 H28 (.i .i64) 5000 (encAs G [.l 3, .i .i64] y) = (s28 (y.1) (y.2.1)).map (Sum.map m28 (fun (r : Int) => (((.i .i64 (r))) : SV Th))) := by kernel_rfl
noncomputable def f28 (a0 : List Int) (a1 : Int) : Option (Int) := runO g28 (s28 (a0) (a1))
theorem Q28 (y : ATup Th [.l 3, .i .i64]) (r : Int) (h : f28 (y.1) (y.2.1) = some r) : PCall Try.prog C 28 (encAs G [.l 3, .i .i64] y) (· = (fun (r : Int) => (((.i .i64 (r))) : SV Th)) r) := runO_sound gok.ok koActM0_8 tabKnows E28 k28 rfl (by kernel_rfl) (by kernel_rfl) (ES28 y) h
noncomputable def knActM0_28 : KnownF Th := (28, knS G [.l 3, .i .i64] fun y => .get (f28 (y.1) (y.2.1)) fun r => .ret ((fun (r : Int) => (((.i .i64 (r))) : SV Th)) r)) :: knActM0_8
theorem koActM0_28 : KnownOk Try.prog C knActM0_28 := KnownOk.addS gok koActM0_8 (scal_opt (enc := fun (r : Int) => (((.i .i64 (r))) : SV Th)) (fun _ => rfl)) (known_opt (enc := fun (r : Int) => (((.i .i64 (r))) : SV Th)) Q28 (fun _ => rfl))
-- 14 drover/act.place
noncomputable def u14 (a0 : Action) : Cm (Int) :=
  (.chk (@LE.le Nat instLENat (@OfNat.ofNat Nat (nat_lit 6) (instOfNatNat (nat_lit 6))) (@List.length Int (@List.cons Int (@OfNat.ofNat Int (nat_lit 0) (@instOfNat (nat_lit 0))) (@List.cons Int (@OfNat.ofNat Int (nat_lit 4) (@instOfNat (nat_lit 4))) (@List.cons Int (@OfNat.ofNat Int (nat_lit 3) (@instOfNat (nat_lit 3))) (@List.cons Int (@OfNat.ofNat Int (nat_lit 5) (@instOfNat (nat_lit 5))) (@List.cons Int (@OfNat.ofNat Int (nat_lit 2) (@instOfNat (nat_lit 2))) (@List.cons Int (@OfNat.ofNat Int (nat_lit 1) (@instOfNat (nat_lit 1))) (@List.nil Int))))))))) (.get (f28 (List.take (6 : Nat) (List.drop (0 : Nat) [(0 : Int), (4 : Int), (3 : Int), (5 : Int), (2 : Int), (1 : Int)])) a0.Kind) fun (y0 : Int) => (.ret (y0))))
noncomputable def f14 (a0 : Action) : Option (Int) := (u14 (a0)).opt
theorem E14 (y : ATup Th [.t 29]) : startC C tab knActM0_28 i14 [] (.i .i64) 5000 (encAs G [.t 29] y) = (u14 (y.1)).map (fun r => .inr ((fun (r : Int) => (((.i .i64 (r))) : SV Th)) r)) := by kernel_rfl
theorem Q14 (y : ATup Th [.t 29]) (r : Int) (h : f14 (y.1) = some r) : PCall Try.prog C 14 (encAs G [.t 29] y) (· = (fun (r : Int) => (((.i .i64 (r))) : SV Th)) r) := one_sound gok.ok koActM0_28 tabKnows k14 (by kernel_rfl) (by kernel_rfl) (E14 y) (Cm.den_opt h rfl)
noncomputable def knActM0_14 : KnownF Th := (14, knS G [.t 29] fun y => .get (f14 (y.1)) fun r => .ret ((fun (r : Int) => (((.i .i64 (r))) : SV Th)) r)) :: knActM0_28
theorem koActM0_14 : KnownOk Try.prog C knActM0_14 := KnownOk.addS gok koActM0_28 (scal_opt (enc := fun (r : Int) => (((.i .i64 (r))) : SV Th)) (fun _ => rfl)) (known_opt (enc := fun (r : Int) => (((.i .i64 (r))) : SV Th)) Q14 (fun _ => rfl))
-- 13 drover/act.Merge$1
noncomputable def u13 (a0 : Action) : Cm (Bool) :=
  (.get (f14 a0) fun (y0 : Int) => (.ret (decide (y0 < 1))))
noncomputable def f13 (a0 : Action) : Option (Bool) := (u13 (a0)).opt
theorem E13 (y : ATup Th [.t 29]) : startC C tab knActM0_14 i13 [] .b 5000 (encAs G [.t 29] y) = (u13 (y.1)).map (fun r => .inr ((fun (r : Bool) => (((.b (r))) : SV Th)) r)) := by kernel_rfl
theorem Q13 (y : ATup Th [.t 29]) (r : Bool) (h : f13 (y.1) = some r) : PCall Try.prog C 13 (encAs G [.t 29] y) (· = (fun (r : Bool) => (((.b (r))) : SV Th)) r) := one_sound gok.ok koActM0_14 tabKnows k13 (by kernel_rfl) (by kernel_rfl) (E13 y) (Cm.den_opt h rfl)
noncomputable def knActM0_13 : KnownF Th := (13, knS G [.t 29] fun y => .get (f13 (y.1)) fun r => .ret ((fun (r : Bool) => (((.b (r))) : SV Th)) r)) :: knActM0_14
theorem koActM0_13 : KnownOk Try.prog C knActM0_13 := KnownOk.addS gok koActM0_14 (scal_opt (enc := fun (r : Bool) => (((.b (r))) : SV Th)) (fun _ => rfl)) (known_opt (enc := fun (r : Bool) => (((.b (r))) : SV Th)) Q13 (fun _ => rfl))
-- 38 cmp.isNaN[int]
noncomputable def u38 (a0 : Int) : Cm (Bool) :=
  (.ret (!decide (a0 = a0)))
noncomputable def f38 (a0 : Int) : Bool := (u38 (a0)).tot default
theorem E38 (y : ATup Th [.i .i64]) : startC C tab knActM0_13 i38 [] .b 5000 (encAs G [.i .i64] y) = (u38 (y.1)).map (fun r => .inr ((fun (r : Bool) => (((.b (r))) : SV Th)) r)) := by kernel_rfl
theorem Q38 (y : ATup Th [.i .i64]) : PCall Try.prog C 38 (encAs G [.i .i64] y) (· = (fun (r : Bool) => (((.b (r))) : SV Th)) (f38 (y.1))) := one_sound gok.ok koActM0_13 tabKnows k38 (by kernel_rfl) (by kernel_rfl) (E38 y) (Cm.den_tot default (by kernel_rfl) rfl)
noncomputable def knActM0_38 : KnownF Th := (38, knS G [.i .i64] fun y => .ret ((fun (r : Bool) => (((.b (r))) : SV Th)) (f38 (y.1)))) :: knActM0_13
theorem koActM0_38 : KnownOk Try.prog C knActM0_38 := KnownOk.addS gok koActM0_13 (scal_tot (enc := fun (r : Bool) => (((.b (r))) : SV Th)) (fun _ => rfl)) (known_tot (enc := fun (r : Bool) => (((.b (r))) : SV Th)) Q38 (fun _ => rfl))
-- 30 cmp.Compare[int]
noncomputable def u30 (a0 : Int) (a1 : Int) : Cm (Int) :=
  (.ite (f38 a0) (.ite (f38 a1) (.ret (0))
  (.ret (-1)))
  (.ite (f38 a1) (.ret (1))
  (.ite (decide (a0 < a1)) (.ret (-1))
  (.ite (decide (a1 < a0)) (.ret (1))
  (.ret (0))))))
noncomputable def f30 (a0 : Int) (a1 : Int) : Int := (u30 (a0) (a1)).tot default
theorem E30 (y : ATup Th [.i .i64, .i .i64]) : startC C tab knActM0_38 i30 [] (.i .i64) 5000 (encAs G [.i .i64, .i .i64] y) = (u30 (y.1) (y.2.1)).map (fun r => .inr ((fun (r : Int) => (((.i .i64 (r))) : SV Th)) r)) := by kernel_rfl
theorem Q30 (y : ATup Th [.i .i64, .i .i64]) : PCall Try.prog C 30 (encAs G [.i .i64, .i .i64] y) (· = (fun (r : Int) => (((.i .i64 (r))) : SV Th)) (f30 (y.1) (y.2.1))) := one_sound gok.ok koActM0_38 tabKnows k30 (by kernel_rfl) (by kernel_rfl) (E30 y) (Cm.den_tot default (by kernel_rfl) rfl)
noncomputable def knActM0_30 : KnownF Th := (30, knS G [.i .i64, .i .i64] fun y => .ret ((fun (r : Int) => (((.i .i64 (r))) : SV Th)) (f30 (y.1) (y.2.1)))) :: knActM0_38
theorem koActM0_30 : KnownOk Try.prog C knActM0_30 := KnownOk.addS gok koActM0_38 (scal_tot (enc := fun (r : Int) => (((.i .i64 (r))) : SV Th)) (fun _ => rfl)) (known_tot (enc := fun (r : Int) => (((.i .i64 (r))) : SV Th)) Q30 (fun _ => rfl))
-- 16 drover/act.rank
noncomputable def u16 (a0 : Action) (a1 : Action) : Cm (Int) :=
  (.get (f14 a0) fun (y0 : Int) => (.get (f14 a1) fun (y1 : Int) => (.ite (!decide (f30 y0 y1 = (0 : Int))) (.ret (f30 y0 y1))
  (.ite (!decide (a0.Kind = 5)) (.ret (f30 y0 y1))
  (.ret (f30 a0.Field a1.Field))))))
noncomputable def f16 (a0 : Action) (a1 : Action) : Option (Int) := (u16 (a0) (a1)).opt
theorem E16 (y : ATup Th [.t 29, .t 29]) : startC C tab knActM0_30 i16 [] (.i .i64) 5000 (encAs G [.t 29, .t 29] y) = (u16 (y.1) (y.2.1)).map (fun r => .inr ((fun (r : Int) => (((.i .i64 (r))) : SV Th)) r)) := by kernel_rfl
theorem Q16 (y : ATup Th [.t 29, .t 29]) (r : Int) (h : f16 (y.1) (y.2.1) = some r) : PCall Try.prog C 16 (encAs G [.t 29, .t 29] y) (· = (fun (r : Int) => (((.i .i64 (r))) : SV Th)) r) := one_sound gok.ok koActM0_30 tabKnows k16 (by kernel_rfl) (by kernel_rfl) (E16 y) (Cm.den_opt h rfl)
noncomputable def knActM0_16 : KnownF Th := (16, knS G [.t 29, .t 29] fun y => .get (f16 (y.1) (y.2.1)) fun r => .ret ((fun (r : Int) => (((.i .i64 (r))) : SV Th)) r)) :: knActM0_30
theorem koActM0_16 : KnownOk Try.prog C knActM0_16 := KnownOk.addS gok koActM0_30 (scal_opt (enc := fun (r : Int) => (((.i .i64 (r))) : SV Th)) (fun _ => rfl)) (known_opt (enc := fun (r : Int) => (((.i .i64 (r))) : SV Th)) Q16 (fun _ => rfl))
noncomputable def kn_ActM0 : KnownF Th := knActM0_16
theorem ko_ActM0 : KnownOk Try.prog C kn_ActM0 := koActM0_16
end Go.Proofs.Act
