/- A part of a law's proof: ActG1. -/
import Derived.KernelRfl
import Derived.Test.YtngoeofpjpdpoaaActRep
import Derived.Test.YtngoeofpjpdpoaaActTy
import Derived.Test.YtngoeofpjpdpoaaActXTab
import Derived.Test.YtngoeofpjpdpoaaSvLoop
set_option linter.constructorNameAsVariable false
namespace Go.Proofs.Act
open Go Go.Ab Go.Proofs
set_option linter.unusedVariables false
set_option linter.unusedSimpArgs false
set_option maxHeartbeats 4000000
set_option maxRecDepth 100000
-- 15 drover/droverref06.Right
noncomputable def u15 (a0 : Action) : Cm (Bool) :=
  (.ite (decide (a0.Kind = 1)) (.ite (decide (a0.Field = 0)) (.ite (decide (1 ≤ a0.Value)) (.ret (decide (a0.Value ≤ 4294967295)))
  (.ret (Bool.false)))
  (.ret (Bool.false)))
  (.ite (decide (a0.Kind = 2)) (.ite (decide (a0.Field = 0)) (.ite (decide (1 ≤ a0.Value)) (.ret (decide (a0.Value ≤ 4294967295)))
  (.ret (Bool.false)))
  (.ret (Bool.false)))
  (.ite (decide (a0.Kind = 3)) (.ite (decide (a0.Field = 0)) (.ret (decide (a0.Value = 0)))
  (.ret (Bool.false)))
  (.ite (decide (a0.Kind = 4)) (.ite (decide (a0.Field = 0)) (.ret (decide (a0.Value = 0)))
  (.ret (Bool.false)))
  (.ite (decide (a0.Kind = 5)) (.ite (decide (a0.Field = 3)) (.ite (decide (4096 ≤ a0.Value)) (.ret (decide (a0.Value ≤ 8191)))
  (.ret (Bool.false)))
  (.ite (decide (a0.Field = 5)) (.ret (decide (a0.Value ≤ 4294967295)))
  (.ite (decide (a0.Field = 6)) (.ret (decide (a0.Value ≤ 4294967295)))
  (.ite (decide (a0.Field = 8)) (.ret (decide (a0.Value ≤ 65535)))
  (.ite (decide (a0.Field = 9)) (.ret (decide (a0.Value ≤ 65535)))
  (.ret (Bool.false)))))))
  (.ret (Bool.false)))))))
noncomputable def f15 (a0 : Action) : Bool := (u15 (a0)).tot default
theorem E15 (y : ATup Th [.t 31]) : startC C tab kn0 i15 [] .b 5000 (encAs G [.t 31] y) = (u15 (y.1)).map (fun r => .inr ((fun (r : Bool) => (((.b (r))) : SV Th)) r)) := by kernel_rfl
theorem Q15 (y : ATup Th [.t 31]) : PCall Try.prog C 15 (encAs G [.t 31] y) (· = (fun (r : Bool) => (((.b (r))) : SV Th)) (f15 (y.1))) := one_sound gok.ok ko0 tabKnows k15 (by kernel_rfl) (by kernel_rfl) (E15 y) (Cm.den_tot default (by kernel_rfl) rfl)
noncomputable def knActG1_15 : KnownF Th := (15, knG G [.t 31] fun y => .ret ((fun (r : Bool) => (((.b (r))) : SV Th)) (f15 (y.1)))) :: kn0
theorem koActG1_15 : KnownOk Try.prog C knActG1_15 := KnownOk.add gok ko0 (known_tot (enc := fun (r : Bool) => (((.b (r))) : SV Th)) Q15 (fun _ => rfl))
-- 16 drover/droverref06.Same
def H16 : List (List Nat × Hint) := [([26012], ⟨[5, 1, 0], [], [], [], [], [], [], 0⟩)]
inductive L16 where
  | h0 (a0 : List Action) (a1 : List Action) (i2 : Int)
noncomputable def m16 : L16 → Trip Th
  | .h0 (a0) (a1) (i2) => ([(.lp 26 c16_5), (.blk 0), (.seq 26 c16_7)], [(5, (.i .i64 (i2))), (1, (.lst 31 (a1))), (0, (.lst 31 (a0)))], [])
noncomputable def g16 : L16 → Cm (L16 ⊕ Bool)
  | .h0 (a0) (a1) (i2) => (.ite (decide (i2 < (↑a0.length : Int))) (.chk ((0 : Int) ≤ i2) (.get (a0[i2.toNat]?) fun (y3 : Action) => (.chk ((0 : Int) ≤ i2) (.get (a1[i2.toNat]?) fun (y4 : Action) => (.ite (!(decide (y3.Kind = y4.Kind) && (decide (y3.Field = y4.Field) && decide (y3.Value = y4.Value)))) (.ret (.inr (Bool.false)))
  (.ret (.inl (.h0 (a0) (a1) (IntKind.i64.wrap (i2 + 1))))))))))
  (.ret (.inr (Bool.true))))
theorem E16 : ∀ s, headC C tab knActG1_15 i16.rs H16 .b 5000 (m16 s) = (g16 s).map (Sum.map m16 (fun (r : Bool) => (((.b (r))) : SV Th)))
  | .h0 (a0) (a1) (i2) => by kernel_rfl
noncomputable def s16 (a0 : List Action) (a1 : List Action) : Cm (L16 ⊕ Bool) :=
  (.ite (!decide ((↑a0.length : Int) = (↑a1.length : Int))) (.ret (.inr (Bool.false)))
  (.ret (.inl (.h0 (a0) (a1) (0)))))
theorem ES16 (y : ATup Th [.l 31, .l 31]) : startC C tab knActG1_15 i16 H16 .b 5000 (encAs G [.l 31, .l 31] y) = (s16 (y.1) (y.2.1)).map (Sum.map m16 (fun (r : Bool) => (((.b (r))) : SV Th))) := by kernel_rfl
noncomputable def f16 (a0 : List Action) (a1 : List Action) : Option (Bool) := runO g16 (s16 (a0) (a1))
theorem Q16 (y : ATup Th [.l 31, .l 31]) (r : Bool) (h : f16 (y.1) (y.2.1) = some r) : PCall Try.prog C 16 (encAs G [.l 31, .l 31] y) (· = (fun (r : Bool) => (((.b (r))) : SV Th)) r) := runO_sound gok.ok koActG1_15 tabKnows E16 k16 rfl (by kernel_rfl) (by kernel_rfl) (ES16 y) h
noncomputable def knActG1_16 : KnownF Th := (16, knG G [.l 31, .l 31] fun y => .get (f16 (y.1) (y.2.1)) fun r => .ret ((fun (r : Bool) => (((.b (r))) : SV Th)) r)) :: knActG1_15
theorem koActG1_16 : KnownOk Try.prog C knActG1_16 := KnownOk.add gok koActG1_15 (known_opt (enc := fun (r : Bool) => (((.b (r))) : SV Th)) Q16 (fun _ => rfl))
-- 19 drover/droverlaw04.Plain
noncomputable def u19 (a0 : field_Seen) : Cm (droverref04_Seen) :=
  (.ret ⟨(a0.In), (a0.Meta), ⟨(a0.P.To), (a0.P.From), (a0.P.Vlan), (a0.P.Type_), (a0.P.Src), (a0.P.Dst), (a0.P.Life), (a0.P.Proto), (a0.P.Sport), (a0.P.Dport), (a0.P.Data)⟩⟩)
noncomputable def f19 (a0 : field_Seen) : droverref04_Seen := (u19 (a0)).tot default
theorem E19 (y : ATup Th [.t 41]) : startC C tab knActG1_16 i19 [] (.agg [.i .i64, .i .u64, .i .u64, .i .u64, .i .i64, .i .i64, .i .u32, .i .u32, .i .i64, .i .i64, .i .i64, .i .i64, .s]) 5000 (encAs G [.t 41] y) = (u19 (y.1)).map (fun r => .inr ((fun (r : droverref04_Seen) => (((.agg (cellsG (G.ty 42) (G.to 42 (r))))) : SV Th)) r)) := by kernel_rfl
theorem Q19 (y : ATup Th [.t 41]) : PCall Try.prog C 19 (encAs G [.t 41] y) (· = (fun (r : droverref04_Seen) => (((.agg (cellsG (G.ty 42) (G.to 42 (r))))) : SV Th)) (f19 (y.1))) := one_sound gok.ok koActG1_16 tabKnows k19 (by kernel_rfl) (by kernel_rfl) (E19 y) (Cm.den_tot default (by kernel_rfl) rfl)
noncomputable def knActG1_19 : KnownF Th := (19, knG G [.t 41] fun y => .ret ((fun (r : droverref04_Seen) => (((.agg (cellsG (G.ty 42) (G.to 42 (r))))) : SV Th)) (f19 (y.1)))) :: knActG1_16
theorem koActG1_19 : KnownOk Try.prog C knActG1_19 := KnownOk.add gok koActG1_16 (known_tot (enc := fun (r : Go.Proofs.Act.droverref04_Seen) => (((.agg (cellsG (G.ty 42) (G.to 42 (r))))) : SV Th)) Q19 (fun _ => rfl))
-- 25 drover/droverlaw06.out
noncomputable def u25 (a0 : Int) : Cm (Action) :=
  (.ret ⟨(1), (0), (a0)⟩)
noncomputable def f25 (a0 : Int) : Action := (u25 (a0)).tot default
theorem E25 (y : ATup Th [.i .u64]) : startC C tab knActG1_19 i25 [] (.agg [.i .i64, .i .i64, .i .u64]) 5000 (encAs G [.i .u64] y) = (u25 (y.1)).map (fun r => .inr ((fun (r : Action) => (((.agg (cellsG (G.ty 31) (G.to 31 (r))))) : SV Th)) r)) := by kernel_rfl
theorem Q25 (y : ATup Th [.i .u64]) : PCall Try.prog C 25 (encAs G [.i .u64] y) (· = (fun (r : Action) => (((.agg (cellsG (G.ty 31) (G.to 31 (r))))) : SV Th)) (f25 (y.1))) := one_sound gok.ok koActG1_19 tabKnows k25 (by kernel_rfl) (by kernel_rfl) (E25 y) (Cm.den_tot default (by kernel_rfl) rfl)
noncomputable def knActG1_25 : KnownF Th := (25, knG G [.i .u64] fun y => .ret ((fun (r : Action) => (((.agg (cellsG (G.ty 31) (G.to 31 (r))))) : SV Th)) (f25 (y.1)))) :: knActG1_19
theorem koActG1_25 : KnownOk Try.prog C knActG1_25 := KnownOk.add gok koActG1_19 (known_tot (enc := fun (r : Go.Proofs.Act.Action) => (((.agg (cellsG (G.ty 31) (G.to 31 (r))))) : SV Th)) Q25 (fun _ => rfl))
-- 32 drover/act.code
noncomputable def u32 (a0 : Int) : Cm (Int × Int) :=
  (.ite (decide (a0 = 3)) (.ret ((6), (2)))
  (.ite (decide (a0 = 5)) (.ret ((11), (4)))
  (.ite (decide (a0 = 6)) (.ret ((12), (4)))
  (.ite (decide (a0 = 8)) (.ret ((13), (2)))
  (.ite (decide (a0 = 9)) (.ret ((14), (2)))
  (.ret ((0), (0))))))))
noncomputable def f32 (a0 : Int) : Int × Int := (u32 (a0)).tot default
theorem E32 (y : ATup Th [.i .i64]) : startC C tab knActG1_25 i32 [] (.tup [(.i .u64), (.i .i64)]) 5000 (encAs G [.i .i64] y) = (u32 (y.1)).map (fun r => .inr ((fun (r : Int × Int) => (((.tup [(.i .u64 (r.1)), (.i .i64 (r.2))])) : SV Th)) r)) := by kernel_rfl
theorem Q32 (y : ATup Th [.i .i64]) : PCall Try.prog C 32 (encAs G [.i .i64] y) (· = (fun (r : Int × Int) => (((.tup [(.i .u64 (r.1)), (.i .i64 (r.2))])) : SV Th)) (f32 (y.1))) := one_sound gok.ok koActG1_25 tabKnows k32 (by kernel_rfl) (by kernel_rfl) (E32 y) (Cm.den_tot default (by kernel_rfl) rfl)
noncomputable def knActG1_32 : KnownF Th := (32, knG G [.i .i64] fun y => .ret ((fun (r : Int × Int) => (((.tup [(.i .u64 (r.1)), (.i .i64 (r.2))])) : SV Th)) (f32 (y.1)))) :: knActG1_25
theorem koActG1_32 : KnownOk Try.prog C knActG1_32 := KnownOk.add gok koActG1_25 (known_tot (enc := fun (r : Int × Int) => (((.tup [(.i .u64 (r.1)), (.i .i64 (r.2))])) : SV Th)) Q32 (fun _ => rfl))
-- 33 drover/field.Width
noncomputable def u33 (a0 : Int) : Cm (Int) :=
  (.ite (decide (a0 = 2)) (.ret (64))
  (.ite (decide (a0 = 1)) (.ret (32))
  (.ite (decide (a0 = 5)) (.ret (32))
  (.ite (decide (a0 = 6)) (.ret (32))
  (.ite (decide (a0 = 4)) (.ret (16))
  (.ite (decide (a0 = 8)) (.ret (16))
  (.ite (decide (a0 = 9)) (.ret (16))
  (.ite (decide (a0 = 3)) (.ret (13))
  (.ite (decide (a0 = 7)) (.ret (8))
  (.ret (0)))))))))))
noncomputable def f33 (a0 : Int) : Int := (u33 (a0)).tot default
theorem E33 (y : ATup Th [.i .i64]) : startC C tab knActG1_32 i33 [] (.i .i64) 5000 (encAs G [.i .i64] y) = (u33 (y.1)).map (fun r => .inr ((fun (r : Int) => (((.i .i64 (r))) : SV Th)) r)) := by kernel_rfl
theorem Q33 (y : ATup Th [.i .i64]) : PCall Try.prog C 33 (encAs G [.i .i64] y) (· = (fun (r : Int) => (((.i .i64 (r))) : SV Th)) (f33 (y.1))) := one_sound gok.ok koActG1_32 tabKnows k33 (by kernel_rfl) (by kernel_rfl) (E33 y) (Cm.den_tot default (by kernel_rfl) rfl)
noncomputable def knActG1_33 : KnownF Th := (33, knG G [.i .i64] fun y => .ret ((fun (r : Int) => (((.i .i64 (r))) : SV Th)) (f33 (y.1)))) :: knActG1_32
theorem koActG1_33 : KnownOk Try.prog C knActG1_33 := KnownOk.add gok koActG1_32 (known_tot (enc := fun (r : Int) => (((.i .i64 (r))) : SV Th)) Q33 (fun _ => rfl))
-- 14 drover/act.Right
noncomputable def u14 (a0 : Action) : Cm (Bool) :=
  (.ite (decide (a0.Kind = 1)) (.ite (decide (a0.Field = 0)) (.ite (decide (1 ≤ a0.Value)) (.chk ((0 : Int) ≤ (32 : Int)) (.ret (decide (a0.Value.fdiv (2 ^ 32) = 0))))
  (.ret (Bool.false)))
  (.ret (Bool.false)))
  (.ite (decide (a0.Kind = 2)) (.ite (decide (a0.Field = 0)) (.ite (decide (1 ≤ a0.Value)) (.chk ((0 : Int) ≤ (32 : Int)) (.ret (decide (a0.Value.fdiv (2 ^ 32) = 0))))
  (.ret (Bool.false)))
  (.ret (Bool.false)))
  (.ite (decide (a0.Kind = 3)) (.ite (decide (a0.Field = 0)) (.ret (decide (a0.Value = 0)))
  (.ret (Bool.false)))
  (.ite (decide (a0.Kind = 4)) (.ite (decide (a0.Field = 0)) (.ret (decide (a0.Value = 0)))
  (.ret (Bool.false)))
  (.ite (decide (a0.Kind = 5)) (.ite (decide ((0 : Int) < (f32 a0.Field).snd)) (.chk ((0 : Int) ≤ f33 a0.Field) (.ite (decide (a0.Value.fdiv ((2 : Int) ^ Min.min (f33 a0.Field).toNat (64 : Nat)) = (0 : Int))) (.ite (!decide (a0.Field = 3)) (.ret (Bool.true))
  (.ret (decide (4096 ≤ a0.Value))))
  (.ret (Bool.false))))
  (.ret (Bool.false)))
  (.ret (Bool.false)))))))
noncomputable def f14 (a0 : Action) : Option (Bool) := (u14 (a0)).opt
theorem E14 (y : ATup Th [.t 31]) : startC C tab knActG1_33 i14 [] .b 5000 (encAs G [.t 31] y) = (u14 (y.1)).map (fun r => .inr ((fun (r : Bool) => (((.b (r))) : SV Th)) r)) := by kernel_rfl
theorem Q14 (y : ATup Th [.t 31]) (r : Bool) (h : f14 (y.1) = some r) : PCall Try.prog C 14 (encAs G [.t 31] y) (· = (fun (r : Bool) => (((.b (r))) : SV Th)) r) := one_sound gok.ok koActG1_33 tabKnows k14 (by kernel_rfl) (by kernel_rfl) (E14 y) (Cm.den_opt h rfl)
noncomputable def knActG1_14 : KnownF Th := (14, knG G [.t 31] fun y => .get (f14 (y.1)) fun r => .ret ((fun (r : Bool) => (((.b (r))) : SV Th)) r)) :: knActG1_33
theorem koActG1_14 : KnownOk Try.prog C knActG1_14 := KnownOk.add gok koActG1_33 (known_opt (enc := fun (r : Bool) => (((.b (r))) : SV Th)) Q14 (fun _ => rfl))
-- 27 drover/act.Encode$1
noncomputable def u27 (a0 : Action) : Cm (Bool) :=
  (.get (f14 a0) fun (y0 : Bool) => (.ret (!y0)))
noncomputable def f27 (a0 : Action) : Option (Bool) := (u27 (a0)).opt
theorem E27 (y : ATup Th [.t 31]) : startC C tab knActG1_14 i27 [] .b 5000 (encAs G [.t 31] y) = (u27 (y.1)).map (fun r => .inr ((fun (r : Bool) => (((.b (r))) : SV Th)) r)) := by kernel_rfl
theorem Q27 (y : ATup Th [.t 31]) (r : Bool) (h : f27 (y.1) = some r) : PCall Try.prog C 27 (encAs G [.t 31] y) (· = (fun (r : Bool) => (((.b (r))) : SV Th)) r) := one_sound gok.ok koActG1_14 tabKnows k27 (by kernel_rfl) (by kernel_rfl) (E27 y) (Cm.den_opt h rfl)
noncomputable def knActG1_27 : KnownF Th := (27, knG G [.t 31] fun y => .get (f27 (y.1)) fun r => .ret ((fun (r : Bool) => (((.b (r))) : SV Th)) r)) :: knActG1_14
theorem koActG1_27 : KnownOk Try.prog C knActG1_27 := KnownOk.add gok koActG1_14 (known_opt (enc := fun (r : Bool) => (((.b (r))) : SV Th)) Q27 (fun _ => rfl))
-- 40 drover/droverref06.place
noncomputable def u40 (a0 : Action) : Cm (Int) :=
  (.ite (decide (a0.Kind = 4)) (.ret (0))
  (.ite (decide (a0.Kind = 3)) (.ret (1))
  (.ite (decide (a0.Kind = 5)) (.ret (2))
  (.ite (decide (a0.Kind = 2)) (.ret (3))
  (.ite (decide (a0.Kind = 1)) (.ret (4))
  (.ret (-1)))))))
noncomputable def f40 (a0 : Action) : Int := (u40 (a0)).tot default
theorem E40 (y : ATup Th [.t 31]) : startC C tab knActG1_27 i40 [] (.i .i64) 5000 (encAs G [.t 31] y) = (u40 (y.1)).map (fun r => .inr ((fun (r : Int) => (((.i .i64 (r))) : SV Th)) r)) := by kernel_rfl
theorem Q40 (y : ATup Th [.t 31]) : PCall Try.prog C 40 (encAs G [.t 31] y) (· = (fun (r : Int) => (((.i .i64 (r))) : SV Th)) (f40 (y.1))) := one_sound gok.ok koActG1_27 tabKnows k40 (by kernel_rfl) (by kernel_rfl) (E40 y) (Cm.den_tot default (by kernel_rfl) rfl)
noncomputable def knActG1_40 : KnownF Th := (40, knG G [.t 31] fun y => .ret ((fun (r : Int) => (((.i .i64 (r))) : SV Th)) (f40 (y.1)))) :: knActG1_27
theorem koActG1_40 : KnownOk Try.prog C knActG1_40 := KnownOk.add gok koActG1_27 (known_tot (enc := fun (r : Int) => (((.i .i64 (r))) : SV Th)) Q40 (fun _ => rfl))
-- 41 drover/droverref06.alike
noncomputable def u41 (a0 : Action) (a1 : Action) : Cm (Bool) :=
  (.ite (decide (a0.Kind = a1.Kind)) (.ite (!decide (a0.Kind = 5)) (.ret (Bool.true))
  (.ret (decide (a0.Field = a1.Field))))
  (.ret (Bool.false)))
noncomputable def f41 (a0 : Action) (a1 : Action) : Bool := (u41 (a0) (a1)).tot default
theorem E41 (y : ATup Th [.t 31, .t 31]) : startC C tab knActG1_40 i41 [] .b 5000 (encAs G [.t 31, .t 31] y) = (u41 (y.1) (y.2.1)).map (fun r => .inr ((fun (r : Bool) => (((.b (r))) : SV Th)) r)) := by kernel_rfl
theorem Q41 (y : ATup Th [.t 31, .t 31]) : PCall Try.prog C 41 (encAs G [.t 31, .t 31] y) (· = (fun (r : Bool) => (((.b (r))) : SV Th)) (f41 (y.1) (y.2.1))) := one_sound gok.ok koActG1_40 tabKnows k41 (by kernel_rfl) (by kernel_rfl) (E41 y) (Cm.den_tot default (by kernel_rfl) rfl)
noncomputable def knActG1_41 : KnownF Th := (41, knG G [.t 31, .t 31] fun y => .ret ((fun (r : Bool) => (((.b (r))) : SV Th)) (f41 (y.1) (y.2.1)))) :: knActG1_40
theorem koActG1_41 : KnownOk Try.prog C knActG1_41 := KnownOk.add gok koActG1_40 (known_tot (enc := fun (r : Bool) => (((.b (r))) : SV Th)) Q41 (fun _ => rfl))
-- 42 drover/droverref06.ahead
noncomputable def u42 (a0 : Action) (a1 : Action) : Cm (Bool) :=
  (.ite (decide (f40 a0 < f40 a1)) (.ret (Bool.true))
  (.ite (decide (f40 a0 = f40 a1)) (.ite (decide (a0.Kind = 5)) (.ret (decide (a0.Field < a1.Field)))
  (.ret (Bool.false)))
  (.ret (Bool.false))))
noncomputable def f42 (a0 : Action) (a1 : Action) : Bool := (u42 (a0) (a1)).tot default
theorem E42 (y : ATup Th [.t 31, .t 31]) : startC C tab knActG1_41 i42 [] .b 5000 (encAs G [.t 31, .t 31] y) = (u42 (y.1) (y.2.1)).map (fun r => .inr ((fun (r : Bool) => (((.b (r))) : SV Th)) r)) := by kernel_rfl
theorem Q42 (y : ATup Th [.t 31, .t 31]) : PCall Try.prog C 42 (encAs G [.t 31, .t 31] y) (· = (fun (r : Bool) => (((.b (r))) : SV Th)) (f42 (y.1) (y.2.1))) := one_sound gok.ok koActG1_41 tabKnows k42 (by kernel_rfl) (by kernel_rfl) (E42 y) (Cm.den_tot default (by kernel_rfl) rfl)
noncomputable def knActG1_42 : KnownF Th := (42, knG G [.t 31, .t 31] fun y => .ret ((fun (r : Bool) => (((.b (r))) : SV Th)) (f42 (y.1) (y.2.1)))) :: knActG1_41
theorem koActG1_42 : KnownOk Try.prog C knActG1_42 := KnownOk.add gok koActG1_41 (known_tot (enc := fun (r : Bool) => (((.b (r))) : SV Th)) Q42 (fun _ => rfl))
-- 18 drover/droverref06.Merge
def H18 : List (List Nat × Hint) := [([88019], ⟨[49, 48, 43, 47, 46, 44, 45, 5, 42, 40, 41, 7, 6, 66, 61, 65, 64, 62, 63, 60, 58, 59], [], [], [], [], [5], [], 0⟩),
  ([88033, 88019], ⟨[9, 5, 7, 8, 6, 66, 61, 65, 64, 62, 63, 60, 58, 59], [], [], [], [8], [5], [], 0⟩),
  ([88054, 88019], ⟨[10, 49, 48, 43, 47, 46, 44, 45, 5, 42, 40, 41, 66, 61, 65, 64, 62, 63, 60, 58, 59, 7, 6], [], [], [], [], [5], [], 0⟩)]
inductive L18 where
  | h0 (a0 : List Action) (a1 : List Action) (i18 : Int)
  | h1 (a0 : List Action) (a1 : List Action) (i16 : Int) (b17 : Bool) (i22 : Int)
  | h2 (a0 : List Action) (a1 : List Action) (i25 : Int)
noncomputable def m18 : L18 → Trip Th
  | .h0 (a0) (a1) (i18) => ([(.lp 88 c18_21), (.blk 0), (.seq 88 c18_23)], [(49, .any), (48, .any), (43, .any), (47, .any), (46, .any), (44, .any), (45, .any), (5, (.sl 31 0 0 ((a0 ++ a1).length) .none)), (42, .any), (40, .any), (41, .any), (7, (.i .i64 (i18))), (6, (.v (.slice .none 0 0))), (66, .any), (61, .any), (65, .any), (64, .any), (62, .any), (63, .any), (60, .any), (58, .any), (59, .any)], [(.arr 31 (a0 ++ a1))])
  | .h1 (a0) (a1) (i16) (b17) (i22) => ([(.lp 88 c18_5), (.blk 2), (.seq 88 c18_17), (.blk 1), (.seq 88 c18_19), (.lp 88 c18_21), (.blk 0), (.seq 88 c18_23)], [(9, (.i .i64 (i16))), (5, (.sl 31 0 0 ((a0 ++ a1).length) .none)), (7, (.i .i64 (i22))), (8, (.b (b17))), (6, (.v (.slice .none 0 0))), (66, .any), (61, .any), (65, .any), (64, .any), (62, .any), (63, .any), (60, .any), (58, .any), (59, .any)], [(.arr 31 (a0 ++ a1))])
  | .h2 (a0) (a1) (i25) => ([(.lp 88 c18_10), (.blk 4), (.seq 88 c18_14), (.blk 1), (.seq 88 c18_19), (.lp 88 c18_21), (.blk 0), (.seq 88 c18_23)], [(10, (.i .i64 0)), (49, .any), (48, .any), (43, .any), (47, .any), (46, .any), (44, .any), (45, .any), (5, (.sl 31 0 0 ((a0 ++ a1).length) .none)), (42, .any), (40, .any), (41, .any), (66, .any), (61, .any), (65, .any), (64, .any), (62, .any), (63, .any), (60, .any), (58, .any), (59, .any), (7, (.i .i64 (i25))), (6, (.v (.slice .none 0 0)))], [(.arr 31 (a0 ++ a1))])
noncomputable def g18 : L18 → Cm (L18 ⊕ (List Action))
  | .h0 (a0) (a1) (i18) => (.ite (decide (i18 < (↑(a0 ++ a1).length : Int))) (.chk ((0 : Int) ≤ i18 ∧ i18 < (↑(a0 ++ a1).length : Int)) (.get ((a0 ++ a1)[(0 : Nat) + i18.toNat]?) fun (y21 : Action) => (.chk ((a0 ++ a1).length = (a0 ++ a1).length) (.ret (.inl (.h1 (a0) (a1) (IntKind.i64.wrap (i18 + 1)) (decide ((0 : Int) ≤ f40 y21)) (i18)))))))
  (.ret (.inr ([]))))
  | .h1 (a0) (a1) (i16) (b17) (i22) => (.ite (decide (i16 < (↑(a0 ++ a1).length : Int))) (.ite (b17) (.chk ((0 : Int) ≤ i22 ∧ i22 < (↑(a0 ++ a1).length : Int)) (.get ((a0 ++ a1)[(0 : Nat) + i22.toNat]?) fun (y23 : Action) => (.chk ((0 : Int) ≤ i16 ∧ i16 < (↑(a0 ++ a1).length : Int)) (.get ((a0 ++ a1)[(0 : Nat) + i16.toNat]?) fun (y24 : Action) => (.chk ((a0 ++ a1).length = (a0 ++ a1).length) (.ret (.inl (.h1 (a0) (a1) (IntKind.i64.wrap (i16 + 1)) (!f41 y23 y24) (i22)))))))))
  (.chk ((a0 ++ a1).length = (a0 ++ a1).length) (.ret (.inl (.h1 (a0) (a1) (IntKind.i64.wrap (i16 + 1)) (Bool.false) (i22))))))
  (.ite (!b17) (.chk ((a0 ++ a1).length = (a0 ++ a1).length) (.ret (.inl (.h0 (a0) (a1) (IntKind.i64.wrap (i22 + 1))))))
  (.chk ((a0 ++ a1).length = (a0 ++ a1).length) (.ret (.inl (.h2 (a0) (a1) (i22)))))))
  | .h2 (a0) (a1) (i25) => (.ite (decide ((0 : Int) < (0 : Int))) .no
  .no)
theorem E18 : ∀ s, headC C tab knActG1_42 i18.rs H18 (.lst 31) 5000 (m18 s) = (g18 s).map (Sum.map m18 (fun (r : (List Action)) => (((.lst 31 (r))) : SV Th)))
  | .h0 (a0) (a1) (i18) => by kernel_rfl
  | .h1 (a0) (a1) (i16) (b17) (i22) => by kernel_rfl
  | .h2 (a0) (a1) (i25) => by kernel_rfl
noncomputable def s18 (a0 : List Action) (a1 : List Action) : Cm (L18 ⊕ (List Action)) :=
  (.chk (a0.length * (24 : Nat) ≤ nat_lit 140737488355328 ∧ a0.length ≤ nat_lit 140737488355328) (.chk (a0.length = a0.length ∧ (a0.length + a1.length) * (24 : Nat) ≤ nat_lit 140737488355328 ∧ a0.length + a1.length ≤ nat_lit 140737488355328) (.chk ((a0 ++ a1).length = (a0 ++ a1).length) (.ret (.inl (.h0 (a0) (a1) (0)))))))
theorem ES18 (y : ATup Th [.l 31, .l 31]) : startC C tab knActG1_42 i18 H18 (.lst 31) 5000 (encAs G [.l 31, .l 31] y) = (s18 (y.1) (y.2.1)).map (Sum.map m18 (fun (r : (List Action)) => (((.lst 31 (r))) : SV Th))) := by kernel_rfl
noncomputable def f18 (a0 : List Action) (a1 : List Action) : Option ((List Action)) := runO g18 (s18 (a0) (a1))
theorem Q18 (y : ATup Th [.l 31, .l 31]) (r : (List Action)) (h : f18 (y.1) (y.2.1) = some r) : PCall Try.prog C 18 (encAs G [.l 31, .l 31] y) (· = (fun (r : (List Action)) => (((.lst 31 (r))) : SV Th)) r) := runO_sound gok.ok koActG1_42 tabKnows E18 k18 rfl (by kernel_rfl) (by kernel_rfl) (ES18 y) h
noncomputable def knActG1_18 : KnownF Th := (18, knG G [.l 31, .l 31] fun y => .get (f18 (y.1) (y.2.1)) fun r => .ret ((fun (r : (List Action)) => (((.lst 31 (r))) : SV Th)) r)) :: knActG1_42
theorem koActG1_18 : KnownOk Try.prog C knActG1_18 := KnownOk.add gok koActG1_42 (known_opt (enc := fun (r : (List Go.Proofs.Act.Action)) => (((.lst 31 (r))) : SV Th)) Q18 (fun _ => rfl))
-- 43 drover/field.Push
noncomputable def u43 (a0 : field_Seen) (a1 : Int) : Cm (field_Seen × Int) :=
  (.ite (!decide (a0.P.Vlan = 0)) (.ret (⟨(0), (0), ⟨(0), (0), (0), (0), (0), (0), (0), (0), (0), (0), ([])⟩⟩, (29)))
  (.ite (decide (4096 ≤ a1)) (.ret (⟨(0), (0), ⟨(0), (0), (0), (0), (0), (0), (0), (0), (0), (0), ([])⟩⟩, (1)))
  (.ret (⟨(a0.In), (a0.Meta), ⟨(a0.P.To), (a0.P.From), (IntKind.i64.wrap (4096 + IntKind.i64.wrap a1)), (a0.P.Type_), (a0.P.Src), (a0.P.Dst), (a0.P.Life), (a0.P.Proto), (a0.P.Sport), (a0.P.Dport), (a0.P.Data)⟩⟩, (0)))))
noncomputable def f43 (a0 : field_Seen) (a1 : Int) : field_Seen × Int := (u43 (a0) (a1)).tot default
theorem E43 (y : ATup Th [.t 41, .i .u64]) : startC C tab knActG1_18 i43 [] (.tup [(.agg [.i .i64, .i .u64, .i .u64, .i .u64, .i .i64, .i .i64, .i .u32, .i .u32, .i .i64, .i .i64, .i .i64, .i .i64, .s]), (.i .i64)]) 5000 (encAs G [.t 41, .i .u64] y) = (u43 (y.1) (y.2.1)).map (fun r => .inr ((fun (r : field_Seen × Int) => (((.tup [(.agg (cellsG (G.ty 41) (G.to 41 (r.1)))), (.i .i64 (r.2))])) : SV Th)) r)) := by kernel_rfl
theorem Q43 (y : ATup Th [.t 41, .i .u64]) : PCall Try.prog C 43 (encAs G [.t 41, .i .u64] y) (· = (fun (r : field_Seen × Int) => (((.tup [(.agg (cellsG (G.ty 41) (G.to 41 (r.1)))), (.i .i64 (r.2))])) : SV Th)) (f43 (y.1) (y.2.1))) := one_sound gok.ok koActG1_18 tabKnows k43 (by kernel_rfl) (by kernel_rfl) (E43 y) (Cm.den_tot default (by kernel_rfl) rfl)
noncomputable def knActG1_43 : KnownF Th := (43, knG G [.t 41, .i .u64] fun y => .ret ((fun (r : field_Seen × Int) => (((.tup [(.agg (cellsG (G.ty 41) (G.to 41 (r.1)))), (.i .i64 (r.2))])) : SV Th)) (f43 (y.1) (y.2.1)))) :: knActG1_18
theorem koActG1_43 : KnownOk Try.prog C knActG1_43 := KnownOk.add gok koActG1_18 (known_tot (enc := fun (r : Go.Proofs.Act.field_Seen × Int) => (((.tup [(.agg (cellsG (G.ty 41) (G.to 41 (r.1)))), (.i .i64 (r.2))])) : SV Th)) Q43 (fun _ => rfl))
-- 44 drover/field.Pop
noncomputable def u44 (a0 : field_Seen) : Cm (field_Seen × Int) :=
  (.ite (decide (a0.P.Vlan = 0)) (.ret (⟨(0), (0), ⟨(0), (0), (0), (0), (0), (0), (0), (0), (0), (0), ([])⟩⟩, (31)))
  (.ret (⟨(a0.In), (a0.Meta), ⟨(a0.P.To), (a0.P.From), (0), (a0.P.Type_), (a0.P.Src), (a0.P.Dst), (a0.P.Life), (a0.P.Proto), (a0.P.Sport), (a0.P.Dport), (a0.P.Data)⟩⟩, (0))))
noncomputable def f44 (a0 : field_Seen) : field_Seen × Int := (u44 (a0)).tot default
theorem E44 (y : ATup Th [.t 41]) : startC C tab knActG1_43 i44 [] (.tup [(.agg [.i .i64, .i .u64, .i .u64, .i .u64, .i .i64, .i .i64, .i .u32, .i .u32, .i .i64, .i .i64, .i .i64, .i .i64, .s]), (.i .i64)]) 5000 (encAs G [.t 41] y) = (u44 (y.1)).map (fun r => .inr ((fun (r : field_Seen × Int) => (((.tup [(.agg (cellsG (G.ty 41) (G.to 41 (r.1)))), (.i .i64 (r.2))])) : SV Th)) r)) := by kernel_rfl
theorem Q44 (y : ATup Th [.t 41]) : PCall Try.prog C 44 (encAs G [.t 41] y) (· = (fun (r : field_Seen × Int) => (((.tup [(.agg (cellsG (G.ty 41) (G.to 41 (r.1)))), (.i .i64 (r.2))])) : SV Th)) (f44 (y.1))) := one_sound gok.ok koActG1_43 tabKnows k44 (by kernel_rfl) (by kernel_rfl) (E44 y) (Cm.den_tot default (by kernel_rfl) rfl)
noncomputable def knActG1_44 : KnownF Th := (44, knG G [.t 41] fun y => .ret ((fun (r : field_Seen × Int) => (((.tup [(.agg (cellsG (G.ty 41) (G.to 41 (r.1)))), (.i .i64 (r.2))])) : SV Th)) (f44 (y.1)))) :: knActG1_43
theorem koActG1_44 : KnownOk Try.prog C knActG1_44 := KnownOk.add gok koActG1_43 (known_tot (enc := fun (r : Go.Proofs.Act.field_Seen × Int) => (((.tup [(.agg (cellsG (G.ty 41) (G.to 41 (r.1)))), (.i .i64 (r.2))])) : SV Th)) Q44 (fun _ => rfl))
-- 46 drover/droverref04.Push
noncomputable def u46 (a0 : droverref04_Seen) (a1 : Int) : Cm (droverref04_Seen × Int) :=
  (.ite (!decide (a0.P.Vlan = 0)) (.ret (⟨(0), (0), ⟨(0), (0), (0), (0), (0), (0), (0), (0), (0), (0), ([])⟩⟩, (29)))
  (.ite (decide (4095 < a1)) (.ret (⟨(0), (0), ⟨(0), (0), (0), (0), (0), (0), (0), (0), (0), (0), ([])⟩⟩, (1)))
  (.ret (⟨(a0.In), (a0.Meta), ⟨(a0.P.To), (a0.P.From), (IntKind.i64.wrap (4096 + IntKind.i64.wrap a1)), (a0.P.Type_), (a0.P.Src), (a0.P.Dst), (a0.P.Life), (a0.P.Proto), (a0.P.Sport), (a0.P.Dport), (a0.P.Data)⟩⟩, (0)))))
noncomputable def f46 (a0 : droverref04_Seen) (a1 : Int) : droverref04_Seen × Int := (u46 (a0) (a1)).tot default
theorem E46 (y : ATup Th [.t 42, .i .u64]) : startC C tab knActG1_44 i46 [] (.tup [(.agg [.i .i64, .i .u64, .i .u64, .i .u64, .i .i64, .i .i64, .i .u32, .i .u32, .i .i64, .i .i64, .i .i64, .i .i64, .s]), (.i .i64)]) 5000 (encAs G [.t 42, .i .u64] y) = (u46 (y.1) (y.2.1)).map (fun r => .inr ((fun (r : droverref04_Seen × Int) => (((.tup [(.agg (cellsG (G.ty 42) (G.to 42 (r.1)))), (.i .i64 (r.2))])) : SV Th)) r)) := by kernel_rfl
theorem Q46 (y : ATup Th [.t 42, .i .u64]) : PCall Try.prog C 46 (encAs G [.t 42, .i .u64] y) (· = (fun (r : droverref04_Seen × Int) => (((.tup [(.agg (cellsG (G.ty 42) (G.to 42 (r.1)))), (.i .i64 (r.2))])) : SV Th)) (f46 (y.1) (y.2.1))) := one_sound gok.ok koActG1_44 tabKnows k46 (by kernel_rfl) (by kernel_rfl) (E46 y) (Cm.den_tot default (by kernel_rfl) rfl)
noncomputable def knActG1_46 : KnownF Th := (46, knG G [.t 42, .i .u64] fun y => .ret ((fun (r : droverref04_Seen × Int) => (((.tup [(.agg (cellsG (G.ty 42) (G.to 42 (r.1)))), (.i .i64 (r.2))])) : SV Th)) (f46 (y.1) (y.2.1)))) :: knActG1_44
theorem koActG1_46 : KnownOk Try.prog C knActG1_46 := KnownOk.add gok koActG1_44 (known_tot (enc := fun (r : Go.Proofs.Act.droverref04_Seen × Int) => (((.tup [(.agg (cellsG (G.ty 42) (G.to 42 (r.1)))), (.i .i64 (r.2))])) : SV Th)) Q46 (fun _ => rfl))
-- 47 drover/droverref04.Pop
noncomputable def u47 (a0 : droverref04_Seen) : Cm (droverref04_Seen × Int) :=
  (.ite (decide (a0.P.Vlan = 0)) (.ret (⟨(0), (0), ⟨(0), (0), (0), (0), (0), (0), (0), (0), (0), (0), ([])⟩⟩, (31)))
  (.ret (⟨(a0.In), (a0.Meta), ⟨(a0.P.To), (a0.P.From), (0), (a0.P.Type_), (a0.P.Src), (a0.P.Dst), (a0.P.Life), (a0.P.Proto), (a0.P.Sport), (a0.P.Dport), (a0.P.Data)⟩⟩, (0))))
noncomputable def f47 (a0 : droverref04_Seen) : droverref04_Seen × Int := (u47 (a0)).tot default
theorem E47 (y : ATup Th [.t 42]) : startC C tab knActG1_46 i47 [] (.tup [(.agg [.i .i64, .i .u64, .i .u64, .i .u64, .i .i64, .i .i64, .i .u32, .i .u32, .i .i64, .i .i64, .i .i64, .i .i64, .s]), (.i .i64)]) 5000 (encAs G [.t 42] y) = (u47 (y.1)).map (fun r => .inr ((fun (r : droverref04_Seen × Int) => (((.tup [(.agg (cellsG (G.ty 42) (G.to 42 (r.1)))), (.i .i64 (r.2))])) : SV Th)) r)) := by kernel_rfl
theorem Q47 (y : ATup Th [.t 42]) : PCall Try.prog C 47 (encAs G [.t 42] y) (· = (fun (r : droverref04_Seen × Int) => (((.tup [(.agg (cellsG (G.ty 42) (G.to 42 (r.1)))), (.i .i64 (r.2))])) : SV Th)) (f47 (y.1))) := one_sound gok.ok koActG1_46 tabKnows k47 (by kernel_rfl) (by kernel_rfl) (E47 y) (Cm.den_tot default (by kernel_rfl) rfl)
noncomputable def knActG1_47 : KnownF Th := (47, knG G [.t 42] fun y => .ret ((fun (r : droverref04_Seen × Int) => (((.tup [(.agg (cellsG (G.ty 42) (G.to 42 (r.1)))), (.i .i64 (r.2))])) : SV Th)) (f47 (y.1)))) :: knActG1_46
theorem koActG1_47 : KnownOk Try.prog C knActG1_47 := KnownOk.add gok koActG1_46 (known_tot (enc := fun (r : Go.Proofs.Act.droverref04_Seen × Int) => (((.tup [(.agg (cellsG (G.ty 42) (G.to 42 (r.1)))), (.i .i64 (r.2))])) : SV Th)) Q47 (fun _ => rfl))
-- 50 drover/droverref03.Num
def H50 : List (List Nat × Hint) := [([19006], ⟨[4, 0, 3], [], [], [], [], [], [], 0⟩)]
inductive L50 where
  | h0 (a0 : List UInt8) (i1 : Int) (i2 : Int)
noncomputable def m50 : L50 → Trip Th
  | .h0 (a0) (i1) (i2) => ([(.lp 19 c50_3), (.blk 0), (.seq 19 c50_5)], [(4, (.i .i64 (i1))), (0, (.s (a0))), (3, (.i .u64 (i2)))], [])
noncomputable def g50 : L50 → Cm (L50 ⊕ Int)
  | .h0 (a0) (i1) (i2) => (.ite (decide (i1 < (↑a0.length : Int))) (.chk ((0 : Int) ≤ (8 : Int)) (.chk ((0 : Int) ≤ i1) (.get (a0[i1.toNat]?) fun (y3 : UInt8) => (.ret (.inl (.h0 (a0) (IntKind.i64.wrap (i1 + 1)) (IntKind.u64.wrap (↑(BitVec.ofInt 64 (IntKind.u64.wrap (i2 * 2 ^ 8)) ||| BitVec.ofInt 64 (IntKind.u64.wrap (↑y3.toNat : Int))).toNat : Int))))))))
  (.ret (.inr (i2))))
theorem E50 : ∀ s, headC C tab knActG1_47 i50.rs H50 (.i .u64) 5000 (m50 s) = (g50 s).map (Sum.map m50 (fun (r : Int) => (((.i .u64 (r))) : SV Th)))
  | .h0 (a0) (i1) (i2) => by kernel_rfl
noncomputable def s50 (a0 : List UInt8) : Cm (L50 ⊕ Int) :=
  (.ret (.inl (.h0 (a0) (0) (0))))
theorem ES50 (y : ATup Th [.s]) : startC C tab knActG1_47 i50 H50 (.i .u64) 5000 (encAs G [.s] y) = (s50 (y.1)).map (Sum.map m50 (fun (r : Int) => (((.i .u64 (r))) : SV Th))) := by kernel_rfl
noncomputable def f50 (a0 : List UInt8) : Option (Int) := runO g50 (s50 (a0))
theorem Q50 (y : ATup Th [.s]) (r : Int) (h : f50 (y.1) = some r) : PCall Try.prog C 50 (encAs G [.s] y) (· = (fun (r : Int) => (((.i .u64 (r))) : SV Th)) r) := runO_sound gok.ok koActG1_47 tabKnows E50 k50 rfl (by kernel_rfl) (by kernel_rfl) (ES50 y) h
noncomputable def knActG1_50 : KnownF Th := (50, knG G [.s] fun y => .get (f50 (y.1)) fun r => .ret ((fun (r : Int) => (((.i .u64 (r))) : SV Th)) r)) :: knActG1_47
theorem koActG1_50 : KnownOk Try.prog C knActG1_50 := KnownOk.add gok koActG1_47 (known_opt (enc := fun (r : Int) => (((.i .u64 (r))) : SV Th)) Q50 (fun _ => rfl))
-- 59 drover/droverref03.Put
def H59 : List (List Nat × Hint) := [([23010], ⟨[6, 0, 5], [], [(5, 5)], [], [], [5], [], 0⟩)]
inductive L59 where
  | h0 (a0 : Int) (i1 : Int) (l3 : List Int)
noncomputable def m59 : L59 → Trip Th
  | .h0 (a0) (i1) (l3) => ([(.lp 23 c59_3), (.blk 0), (.seq 23 c59_5)], [(6, (.i .i64 (i1))), (0, (.i .u64 (a0))), (5, (.sl 5 0 0 (l3.length) .none))], [(.arr 5 (l3))])
noncomputable def g59 : L59 → Cm (L59 ⊕ (List UInt8))
  | .h0 (a0) (i1) (l3) => (.ite (decide (0 ≤ i1)) (.chk ((0 : Int) ≤ IntKind.i64.wrap ((8 : Int) * i1)) (.chk ((1 : Nat) ≤ [IntKind.u8.wrap (a0.fdiv ((2 : Int) ^ Min.min (IntKind.i64.wrap ((8 : Int) * i1)).toNat (64 : Nat)))].length) (.chk (l3.length = l3.length ∧ (l3.length + (List.take (1 : Nat) (List.drop (0 : Nat) [IntKind.u8.wrap (a0.fdiv ((2 : Int) ^ Min.min (IntKind.i64.wrap ((8 : Int) * i1)).toNat (64 : Nat)))])).length) * (1 : Nat) ≤ nat_lit 140737488355328 ∧ l3.length + (List.take (1 : Nat) (List.drop (0 : Nat) [IntKind.u8.wrap (a0.fdiv ((2 : Int) ^ Min.min (IntKind.i64.wrap ((8 : Int) * i1)).toNat (64 : Nat)))])).length ≤ nat_lit 140737488355328) (.chk ((l3 ++ List.take (1 : Nat) (List.drop (0 : Nat) [IntKind.u8.wrap (a0.fdiv ((2 : Int) ^ Min.min (IntKind.i64.wrap ((8 : Int) * i1)).toNat (64 : Nat)))])).length = (l3 ++ List.take (1 : Nat) (List.drop (0 : Nat) [IntKind.u8.wrap (a0.fdiv ((2 : Int) ^ Min.min (IntKind.i64.wrap ((8 : Int) * i1)).toNat (64 : Nat)))])).length) (.ret (.inl (.h0 (a0) (IntKind.i64.wrap (i1 - 1)) (l3 ++ List.take (1 : Nat) (List.drop (0 : Nat) [IntKind.u8.wrap (a0.fdiv ((2 : Int) ^ Min.min (IntKind.i64.wrap ((8 : Int) * i1)).toNat (64 : Nat)))])))))))))
  (.chk ((0 : Nat) + l3.length ≤ l3.length) (.ret (.inr (List.map (fun (x : Int) => UInt8.ofNat x.toNat) (List.take l3.length (List.drop (0 : Nat) l3)))))))
theorem E59 : ∀ s, headC C tab knActG1_50 i59.rs H59 .s 5000 (m59 s) = (g59 s).map (Sum.map m59 (fun (r : (List UInt8)) => (((.s (r))) : SV Th)))
  | .h0 (a0) (i1) (l3) => by kernel_rfl
noncomputable def s59 (a0 : Int) (a1 : Int) : Cm (L59 ⊕ (List UInt8)) :=
  (.chk (@Eq Nat (@OfNat.ofNat Nat (nat_lit 0) (instOfNatNat (nat_lit 0))) (@List.length (Th (@OfNat.ofNat Nat (nat_lit 5) (instOfNatNat (nat_lit 5)))) (@List.nil (Th (@OfNat.ofNat Nat (nat_lit 5) (instOfNatNat (nat_lit 5))))))) (.ret (.inl (.h0 (a0) (IntKind.i64.wrap (a1 - 1)) ([])))))
theorem ES59 (y : ATup Th [.i .u64, .i .i64]) : startC C tab knActG1_50 i59 H59 .s 5000 (encAs G [.i .u64, .i .i64] y) = (s59 (y.1) (y.2.1)).map (Sum.map m59 (fun (r : (List UInt8)) => (((.s (r))) : SV Th))) := by kernel_rfl
noncomputable def f59 (a0 : Int) (a1 : Int) : Option ((List UInt8)) := runO g59 (s59 (a0) (a1))
theorem Q59 (y : ATup Th [.i .u64, .i .i64]) (r : (List UInt8)) (h : f59 (y.1) (y.2.1) = some r) : PCall Try.prog C 59 (encAs G [.i .u64, .i .i64] y) (· = (fun (r : (List UInt8)) => (((.s (r))) : SV Th)) r) := runO_sound gok.ok koActG1_50 tabKnows E59 k59 rfl (by kernel_rfl) (by kernel_rfl) (ES59 y) h
noncomputable def knActG1_59 : KnownF Th := (59, knG G [.i .u64, .i .i64] fun y => .get (f59 (y.1) (y.2.1)) fun r => .ret ((fun (r : (List UInt8)) => (((.s (r))) : SV Th)) r)) :: knActG1_50
theorem koActG1_59 : KnownOk Try.prog C knActG1_59 := KnownOk.add gok koActG1_50 (known_opt (enc := fun (r : (List UInt8)) => (((.s (r))) : SV Th)) Q59 (fun _ => rfl))
-- 60 drover/droverref06.code
noncomputable def u60 (a0 : Int) : Cm (Int) :=
  (.ite (decide (a0 = 3)) (.ret (6))
  (.ite (decide (a0 = 5)) (.ret (11))
  (.ite (decide (a0 = 6)) (.ret (12))
  (.ite (decide (a0 = 8)) (.ret (13))
  (.ite (decide (a0 = 9)) (.ret (14))
  (.ret (0)))))))
noncomputable def f60 (a0 : Int) : Int := (u60 (a0)).tot default
theorem E60 (y : ATup Th [.i .i64]) : startC C tab knActG1_59 i60 [] (.i .i64) 5000 (encAs G [.i .i64] y) = (u60 (y.1)).map (fun r => .inr ((fun (r : Int) => (((.i .i64 (r))) : SV Th)) r)) := by kernel_rfl
theorem Q60 (y : ATup Th [.i .i64]) : PCall Try.prog C 60 (encAs G [.i .i64] y) (· = (fun (r : Int) => (((.i .i64 (r))) : SV Th)) (f60 (y.1))) := one_sound gok.ok koActG1_59 tabKnows k60 (by kernel_rfl) (by kernel_rfl) (E60 y) (Cm.den_tot default (by kernel_rfl) rfl)
noncomputable def knActG1_60 : KnownF Th := (60, knG G [.i .i64] fun y => .ret ((fun (r : Int) => (((.i .i64 (r))) : SV Th)) (f60 (y.1)))) :: knActG1_59
theorem koActG1_60 : KnownOk Try.prog C knActG1_60 := KnownOk.add gok koActG1_59 (known_tot (enc := fun (r : Int) => (((.i .i64 (r))) : SV Th)) Q60 (fun _ => rfl))
-- 61 drover/droverref06.size
noncomputable def u61 (a0 : Int) : Cm (Int) :=
  (.ite (decide (a0 = 5)) (.ret (4))
  (.ite (decide (a0 = 6)) (.ret (4))
  (.ret (2))))
noncomputable def f61 (a0 : Int) : Int := (u61 (a0)).tot default
theorem E61 (y : ATup Th [.i .i64]) : startC C tab knActG1_60 i61 [] (.i .i64) 5000 (encAs G [.i .i64] y) = (u61 (y.1)).map (fun r => .inr ((fun (r : Int) => (((.i .i64 (r))) : SV Th)) r)) := by kernel_rfl
theorem Q61 (y : ATup Th [.i .i64]) : PCall Try.prog C 61 (encAs G [.i .i64] y) (· = (fun (r : Int) => (((.i .i64 (r))) : SV Th)) (f61 (y.1))) := one_sound gok.ok koActG1_60 tabKnows k61 (by kernel_rfl) (by kernel_rfl) (E61 y) (Cm.den_tot default (by kernel_rfl) rfl)
noncomputable def knActG1_61 : KnownF Th := (61, knG G [.i .i64] fun y => .ret ((fun (r : Int) => (((.i .i64 (r))) : SV Th)) (f61 (y.1)))) :: knActG1_60
theorem koActG1_61 : KnownOk Try.prog C knActG1_61 := KnownOk.add gok koActG1_60 (known_tot (enc := fun (r : Int) => (((.i .i64 (r))) : SV Th)) Q61 (fun _ => rfl))
-- 31 drover/droverref06.bytes
noncomputable def u31 (a0 : Action) : Cm ((List UInt8)) :=
  (.ite (decide (a0.Kind = 1)) (.get (f59 a0.Value 4) fun (y0 : List UInt8) => (.chk ([(0 : UInt8), (0 : UInt8), (0 : UInt8), (16 : UInt8)].length + y0.length ≤ (9223372036854775807 : Nat)) (.chk (([(0 : UInt8), (0 : UInt8), (0 : UInt8), (16 : UInt8)] ++ y0).length + [(255 : UInt8), (255 : UInt8), (0 : UInt8), (0 : UInt8), (0 : UInt8), (0 : UInt8), (0 : UInt8), (0 : UInt8)].length ≤ (9223372036854775807 : Nat)) (.ret ([(0 : UInt8), (0 : UInt8), (0 : UInt8), (16 : UInt8)] ++ y0 ++ [(255 : UInt8), (255 : UInt8), (0 : UInt8), (0 : UInt8), (0 : UInt8), (0 : UInt8), (0 : UInt8), (0 : UInt8)])))))
  (.ite (decide (a0.Kind = 2)) (.get (f59 a0.Value 4) fun (y1 : List UInt8) => (.chk ([(0 : UInt8), (22 : UInt8), (0 : UInt8), (8 : UInt8)].length + y1.length ≤ (9223372036854775807 : Nat)) (.ret ([(0 : UInt8), (22 : UInt8), (0 : UInt8), (8 : UInt8)] ++ y1))))
  (.ite (decide (a0.Kind = 3)) (.ret ([(0 : UInt8), (17 : UInt8), (0 : UInt8), (8 : UInt8), (129 : UInt8), (0 : UInt8), (0 : UInt8), (0 : UInt8)]))
  (.ite (decide (a0.Kind = 4)) (.ret ([(0 : UInt8), (18 : UInt8), (0 : UInt8), (8 : UInt8), (0 : UInt8), (0 : UInt8), (0 : UInt8), (0 : UInt8)]))
  (.chk ((2 : Nat) ≤ [IntKind.u8.wrap (IntKind.i64.wrap ((2 : Int) * f60 a0.Field)), IntKind.u8.wrap (f61 a0.Field)].length) (.chk ([(0 : UInt8), (25 : UInt8), (0 : UInt8), (16 : UInt8), (128 : UInt8), (0 : UInt8)].length + (List.map (fun (x : Int) => UInt8.ofNat x.toNat) (List.take (2 : Nat) (List.drop (0 : Nat) [IntKind.u8.wrap (IntKind.i64.wrap ((2 : Int) * f60 a0.Field)), IntKind.u8.wrap (f61 a0.Field)]))).length ≤ (9223372036854775807 : Nat)) (.get (f59 a0.Value (f61 a0.Field)) fun (y2 : List UInt8) => (.chk (([(0 : UInt8), (25 : UInt8), (0 : UInt8), (16 : UInt8), (128 : UInt8), (0 : UInt8)] ++ List.map (fun (x : Int) => UInt8.ofNat x.toNat) (List.take (2 : Nat) (List.drop (0 : Nat) [IntKind.u8.wrap (IntKind.i64.wrap ((2 : Int) * f60 a0.Field)), IntKind.u8.wrap (f61 a0.Field)]))).length + y2.length ≤ (9223372036854775807 : Nat)) (.chk ((0 : Int) ≤ IntKind.i64.wrap ((16 : Int) - (↑([(0 : UInt8), (25 : UInt8), (0 : UInt8), (16 : UInt8), (128 : UInt8), (0 : UInt8)] ++ List.map (fun (x : Int) => UInt8.ofNat x.toNat) (List.take (2 : Nat) (List.drop (0 : Nat) [IntKind.u8.wrap (IntKind.i64.wrap ((2 : Int) * f60 a0.Field)), IntKind.u8.wrap (f61 a0.Field)])) ++ y2).length : Int)) ∧ IntKind.i64.wrap ((16 : Int) - (↑([(0 : UInt8), (25 : UInt8), (0 : UInt8), (16 : UInt8), (128 : UInt8), (0 : UInt8)] ++ List.map (fun (x : Int) => UInt8.ofNat x.toNat) (List.take (2 : Nat) (List.drop (0 : Nat) [IntKind.u8.wrap (IntKind.i64.wrap ((2 : Int) * f60 a0.Field)), IntKind.u8.wrap (f61 a0.Field)])) ++ y2).length : Int)) ≤ IntKind.i64.wrap ((16 : Int) - (↑([(0 : UInt8), (25 : UInt8), (0 : UInt8), (16 : UInt8), (128 : UInt8), (0 : UInt8)] ++ List.map (fun (x : Int) => UInt8.ofNat x.toNat) (List.take (2 : Nat) (List.drop (0 : Nat) [IntKind.u8.wrap (IntKind.i64.wrap ((2 : Int) * f60 a0.Field)), IntKind.u8.wrap (f61 a0.Field)])) ++ y2).length : Int)) ∧ IntKind.i64.wrap ((16 : Int) - (↑([(0 : UInt8), (25 : UInt8), (0 : UInt8), (16 : UInt8), (128 : UInt8), (0 : UInt8)] ++ List.map (fun (x : Int) => UInt8.ofNat x.toNat) (List.take (2 : Nat) (List.drop (0 : Nat) [IntKind.u8.wrap (IntKind.i64.wrap ((2 : Int) * f60 a0.Field)), IntKind.u8.wrap (f61 a0.Field)])) ++ y2).length : Int)) * (↑(1 : Nat) : Int) ≤ (281474976710656 : Int)) (.chk ((0 : Nat) + (List.replicate (IntKind.i64.wrap ((16 : Int) - (↑([(0 : UInt8), (25 : UInt8), (0 : UInt8), (16 : UInt8), (128 : UInt8), (0 : UInt8)] ++ List.map (fun (x : Int) => UInt8.ofNat x.toNat) (List.take (2 : Nat) (List.drop (0 : Nat) [IntKind.u8.wrap (IntKind.i64.wrap ((2 : Int) * f60 a0.Field)), IntKind.u8.wrap (f61 a0.Field)])) ++ y2).length : Int))).toNat (0 : Int)).length ≤ (List.replicate (IntKind.i64.wrap ((16 : Int) - (↑([(0 : UInt8), (25 : UInt8), (0 : UInt8), (16 : UInt8), (128 : UInt8), (0 : UInt8)] ++ List.map (fun (x : Int) => UInt8.ofNat x.toNat) (List.take (2 : Nat) (List.drop (0 : Nat) [IntKind.u8.wrap (IntKind.i64.wrap ((2 : Int) * f60 a0.Field)), IntKind.u8.wrap (f61 a0.Field)])) ++ y2).length : Int))).toNat (0 : Int)).length) (.chk (([(0 : UInt8), (25 : UInt8), (0 : UInt8), (16 : UInt8), (128 : UInt8), (0 : UInt8)] ++ List.map (fun (x : Int) => UInt8.ofNat x.toNat) (List.take (2 : Nat) (List.drop (0 : Nat) [IntKind.u8.wrap (IntKind.i64.wrap ((2 : Int) * f60 a0.Field)), IntKind.u8.wrap (f61 a0.Field)])) ++ y2).length + (List.map (fun (x : Int) => UInt8.ofNat x.toNat) (List.take (List.replicate (IntKind.i64.wrap ((16 : Int) - (↑([(0 : UInt8), (25 : UInt8), (0 : UInt8), (16 : UInt8), (128 : UInt8), (0 : UInt8)] ++ List.map (fun (x : Int) => UInt8.ofNat x.toNat) (List.take (2 : Nat) (List.drop (0 : Nat) [IntKind.u8.wrap (IntKind.i64.wrap ((2 : Int) * f60 a0.Field)), IntKind.u8.wrap (f61 a0.Field)])) ++ y2).length : Int))).toNat (0 : Int)).length (List.drop (0 : Nat) (List.replicate (IntKind.i64.wrap ((16 : Int) - (↑([(0 : UInt8), (25 : UInt8), (0 : UInt8), (16 : UInt8), (128 : UInt8), (0 : UInt8)] ++ List.map (fun (x : Int) => UInt8.ofNat x.toNat) (List.take (2 : Nat) (List.drop (0 : Nat) [IntKind.u8.wrap (IntKind.i64.wrap ((2 : Int) * f60 a0.Field)), IntKind.u8.wrap (f61 a0.Field)])) ++ y2).length : Int))).toNat (0 : Int))))).length ≤ (9223372036854775807 : Nat)) (.ret ([(0 : UInt8), (25 : UInt8), (0 : UInt8), (16 : UInt8), (128 : UInt8), (0 : UInt8)] ++ List.map (fun (x : Int) => UInt8.ofNat x.toNat) (List.take (2 : Nat) (List.drop (0 : Nat) [IntKind.u8.wrap (IntKind.i64.wrap ((2 : Int) * f60 a0.Field)), IntKind.u8.wrap (f61 a0.Field)])) ++ y2 ++ List.map (fun (x : Int) => UInt8.ofNat x.toNat) (List.take (List.replicate (IntKind.i64.wrap ((16 : Int) - (↑([(0 : UInt8), (25 : UInt8), (0 : UInt8), (16 : UInt8), (128 : UInt8), (0 : UInt8)] ++ List.map (fun (x : Int) => UInt8.ofNat x.toNat) (List.take (2 : Nat) (List.drop (0 : Nat) [IntKind.u8.wrap (IntKind.i64.wrap ((2 : Int) * f60 a0.Field)), IntKind.u8.wrap (f61 a0.Field)])) ++ y2).length : Int))).toNat (0 : Int)).length (List.drop (0 : Nat) (List.replicate (IntKind.i64.wrap ((16 : Int) - (↑([(0 : UInt8), (25 : UInt8), (0 : UInt8), (16 : UInt8), (128 : UInt8), (0 : UInt8)] ++ List.map (fun (x : Int) => UInt8.ofNat x.toNat) (List.take (2 : Nat) (List.drop (0 : Nat) [IntKind.u8.wrap (IntKind.i64.wrap ((2 : Int) * f60 a0.Field)), IntKind.u8.wrap (f61 a0.Field)])) ++ y2).length : Int))).toNat (0 : Int)))))))))))))))))
noncomputable def f31 (a0 : Action) : Option ((List UInt8)) := (u31 (a0)).opt
theorem E31 (y : ATup Th [.t 31]) : startC C tab knActG1_61 i31 [] .s 5000 (encAs G [.t 31] y) = (u31 (y.1)).map (fun r => .inr ((fun (r : (List UInt8)) => (((.s (r))) : SV Th)) r)) := by kernel_rfl
theorem Q31 (y : ATup Th [.t 31]) (r : (List UInt8)) (h : f31 (y.1) = some r) : PCall Try.prog C 31 (encAs G [.t 31] y) (· = (fun (r : (List UInt8)) => (((.s (r))) : SV Th)) r) := one_sound gok.ok koActG1_61 tabKnows k31 (by kernel_rfl) (by kernel_rfl) (E31 y) (Cm.den_opt h rfl)
noncomputable def knActG1_31 : KnownF Th := (31, knG G [.t 31] fun y => .get (f31 (y.1)) fun r => .ret ((fun (r : (List UInt8)) => (((.s (r))) : SV Th)) r)) :: knActG1_61
theorem koActG1_31 : KnownOk Try.prog C knActG1_31 := KnownOk.add gok koActG1_61 (known_opt (enc := fun (r : (List UInt8)) => (((.s (r))) : SV Th)) Q31 (fun _ => rfl))
-- 13 drover/droverref06.Encode
def H13 : List (List Nat × Hint) := [([36008], ⟨[4, 0], [], [], [], [], [], [], 0⟩),
  ([36023], ⟨[6, 0, 5], [], [], [], [], [], [], 0⟩)]
inductive L13 where
  | h0 (a0 : List Action) (i1 : Int)
  | h1 (a0 : List Action) (i5 : Int) (l6 : List UInt8)
noncomputable def m13 : L13 → Trip Th
  | .h0 (a0) (i1) => ([(.lp 36 c13_5), (.blk 0), (.seq 36 c13_17)], [(4, (.i .i64 (i1))), (0, (.lst 31 (a0)))], [])
  | .h1 (a0) (i5) (l6) => ([(.lp 36 c13_12), (.blk 2), (.seq 36 c13_14)], [(6, (.i .i64 (i5))), (0, (.lst 31 (a0))), (5, (.s (l6)))], [])
noncomputable def g13 : L13 → Cm (L13 ⊕ (List UInt8) × Int)
  | .h0 (a0) (i1) => (.ite (decide (i1 < (↑a0.length : Int))) (.chk ((0 : Int) ≤ i1) (.get (a0[i1.toNat]?) fun (y2 : Action) => (.ite (!f15 y2) (.ret (.inr (([]), (22))))
  (.ret (.inl (.h0 (a0) (IntKind.i64.wrap (i1 + 1))))))))
  (.ite (decide ((32 : Int) < (↑a0.length : Int))) (.ret (.inr (([]), (44))))
  (.ret (.inl (.h1 (a0) (0) ([]))))))
  | .h1 (a0) (i5) (l6) => (.ite (decide (i5 < (↑a0.length : Int))) (.chk ((0 : Int) ≤ i5) (.get (a0[i5.toNat]?) fun (y7 : Action) => (.get (f31 y7) fun (y8 : List UInt8) => (.chk (l6.length + y8.length ≤ (9223372036854775807 : Nat)) (.ret (.inl (.h1 (a0) (IntKind.i64.wrap (i5 + 1)) (l6 ++ y8))))))))
  (.ret (.inr ((l6), (0)))))
theorem E13 : ∀ s, headC C tab knActG1_31 i13.rs H13 (.tup [.s, (.i .i64)]) 5000 (m13 s) = (g13 s).map (Sum.map m13 (fun (r : (List UInt8) × Int) => (((.tup [(.s (r.1)), (.i .i64 (r.2))])) : SV Th)))
  | .h0 (a0) (i1) => by kernel_rfl
  | .h1 (a0) (i5) (l6) => by kernel_rfl
noncomputable def s13 (a0 : List Action) : Cm (L13 ⊕ (List UInt8) × Int) :=
  (.ret (.inl (.h0 (a0) (0))))
theorem ES13 (y : ATup Th [.l 31]) : startC C tab knActG1_31 i13 H13 (.tup [.s, (.i .i64)]) 5000 (encAs G [.l 31] y) = (s13 (y.1)).map (Sum.map m13 (fun (r : (List UInt8) × Int) => (((.tup [(.s (r.1)), (.i .i64 (r.2))])) : SV Th))) := by kernel_rfl
noncomputable def f13 (a0 : List Action) : Option ((List UInt8) × Int) := runO g13 (s13 (a0))
theorem Q13 (y : ATup Th [.l 31]) (r : (List UInt8) × Int) (h : f13 (y.1) = some r) : PCall Try.prog C 13 (encAs G [.l 31] y) (· = (fun (r : (List UInt8) × Int) => (((.tup [(.s (r.1)), (.i .i64 (r.2))])) : SV Th)) r) := runO_sound gok.ok koActG1_31 tabKnows E13 k13 rfl (by kernel_rfl) (by kernel_rfl) (ES13 y) h
noncomputable def knActG1_13 : KnownF Th := (13, knG G [.l 31] fun y => .get (f13 (y.1)) fun r => .ret ((fun (r : (List UInt8) × Int) => (((.tup [(.s (r.1)), (.i .i64 (r.2))])) : SV Th)) r)) :: knActG1_31
theorem koActG1_13 : KnownOk Try.prog C knActG1_13 := KnownOk.add gok koActG1_31 (known_opt (enc := fun (r : (List UInt8) × Int) => (((.tup [(.s (r.1)), (.i .i64 (r.2))])) : SV Th)) Q13 (fun _ => rfl))
-- 51 drover/droverref06.one
def H51 : List (List Nat × Hint) := [([57028], ⟨[2, 3, 0], [], [], [], [], [], [], 0⟩)]
inductive L51 where
  | h0 (a0 : List UInt8) (i11 : Int)
noncomputable def m51 : L51 → Trip Th
  | .h0 (a0) (i11) => ([(.lp 57 c51_8), (.blk 1), (.blk 0), (.seq 57 c51_16)], [(2, (.ptr 0 0)), (3, (.i .i64 (i11))), (0, (.s (a0)))], [(.box [(.i .i64 0), (.i .i64 0), (.i .u64 0)])])
noncomputable def g51 : L51 → Cm (L51 ⊕ Action)
  | .h0 (a0) (i11) => (.ite (decide (i11 ≤ 9)) (.ite (decide ((0 : Int) < f60 i11)) (.chk ((0 : Int) ≤ (6 : Int)) (.get (a0[(6 : Nat)]?) fun (y12 : UInt8) => (.ite (decide (IntKind.i64.wrap (↑y12.toNat : Int) = IntKind.i64.wrap ((2 : Int) * f60 i11))) (.ite (decide ((↑a0.length : Int) = (16 : Int))) (.chk ((0 : Int) ≤ IntKind.i64.wrap ((8 : Int) + f61 i11) ∧ IntKind.i64.wrap ((8 : Int) + f61 i11) ≤ (↑a0.length : Int)) (.chk ((0 : Int) ≤ (8 : Int) ∧ (8 : Int) ≤ (↑(IntKind.i64.wrap ((8 : Int) + f61 i11)).toNat : Int)) (.get (f50 (List.drop (8 : Nat) (List.take (IntKind.i64.wrap ((8 : Int) + f61 i11)).toNat a0))) fun (y13 : Int) => (.ret (.inr ⟨(5), (i11), (y13)⟩)))))
  (.ret (.inl (.h0 (a0) (IntKind.i64.wrap (i11 + 1))))))
  (.ret (.inl (.h0 (a0) (IntKind.i64.wrap (i11 + 1))))))))
  (.ret (.inl (.h0 (a0) (IntKind.i64.wrap (i11 + 1))))))
  (.ret (.inr ⟨(0), (0), (0)⟩)))
theorem E51 : ∀ s, headC C tab knActG1_13 i51.rs H51 (.agg [.i .i64, .i .i64, .i .u64]) 5000 (m51 s) = (g51 s).map (Sum.map m51 (fun (r : Action) => (((.agg (cellsG (G.ty 31) (G.to 31 (r))))) : SV Th)))
  | .h0 (a0) (i11) => by kernel_rfl
noncomputable def s51 (a0 : List UInt8) : Cm (L51 ⊕ Action) :=
  (.chk ((0 : Int) ≤ (2 : Int) ∧ (2 : Int) ≤ (↑a0.length : Int)) (.get (f50 (List.drop (0 : Nat) (List.take (2 : Nat) a0))) fun (y6 : Int) => (.ite (decide (y6 = 0)) (.chk ((0 : Int) ≤ (8 : Int) ∧ (8 : Int) ≤ (↑a0.length : Int)) (.chk ((0 : Int) ≤ (4 : Int) ∧ (4 : Int) ≤ (↑(8 : Nat) : Int)) (.get (f50 (List.drop (4 : Nat) (List.take (8 : Nat) a0))) fun (y7 : Int) => (.ret (.inr ⟨(1), (0), (y7)⟩)))))
  (.ite (decide (y6 = 22)) (.chk ((0 : Int) ≤ (8 : Int) ∧ (8 : Int) ≤ (↑a0.length : Int)) (.chk ((0 : Int) ≤ (4 : Int) ∧ (4 : Int) ≤ (↑(8 : Nat) : Int)) (.get (f50 (List.drop (4 : Nat) (List.take (8 : Nat) a0))) fun (y8 : Int) => (.ret (.inr ⟨(2), (0), (y8)⟩)))))
  (.ite (decide (y6 = 17)) (.ret (.inr ⟨(3), (0), (0)⟩))
  (.ite (decide (y6 = 18)) (.ret (.inr ⟨(4), (0), (0)⟩))
  (.ite (decide (y6 = 25)) (.ret (.inl (.h0 (a0) (3))))
  (.ret (.inr ⟨(0), (0), (0)⟩)))))))))
theorem ES51 (y : ATup Th [.s]) : startC C tab knActG1_13 i51 H51 (.agg [.i .i64, .i .i64, .i .u64]) 5000 (encAs G [.s] y) = (s51 (y.1)).map (Sum.map m51 (fun (r : Action) => (((.agg (cellsG (G.ty 31) (G.to 31 (r))))) : SV Th))) := by kernel_rfl
noncomputable def f51 (a0 : List UInt8) : Option (Action) := runO g51 (s51 (a0))
theorem Q51 (y : ATup Th [.s]) (r : Action) (h : f51 (y.1) = some r) : PCall Try.prog C 51 (encAs G [.s] y) (· = (fun (r : Action) => (((.agg (cellsG (G.ty 31) (G.to 31 (r))))) : SV Th)) r) := runO_sound gok.ok koActG1_13 tabKnows E51 k51 rfl (by kernel_rfl) (by kernel_rfl) (ES51 y) h
noncomputable def knActG1_51 : KnownF Th := (51, knG G [.s] fun y => .get (f51 (y.1)) fun r => .ret ((fun (r : Action) => (((.agg (cellsG (G.ty 31) (G.to 31 (r))))) : SV Th)) r)) :: knActG1_13
theorem koActG1_51 : KnownOk Try.prog C knActG1_51 := KnownOk.add gok koActG1_13 (known_opt (enc := fun (r : Go.Proofs.Act.Action) => (((.agg (cellsG (G.ty 31) (G.to 31 (r))))) : SV Th)) Q51 (fun _ => rfl))
-- 23 drover/droverref06.Decode
def H23 : List (List Nat × Hint) := [([48008], ⟨[0, 4], [], [(4, 31)], [], [], [4], [], 0⟩)]
inductive L23 where
  | h0 (l7 : List UInt8) (l9 : List Action)
noncomputable def m23 : L23 → Trip Th
  | .h0 (l7) (l9) => ([(.lp 48 c23_17), (.blk 0), (.seq 48 c23_18)], [(0, (.s (l7))), (4, (.sl 31 0 0 (l9.length) .none))], [(.arr 31 (l9))])
noncomputable def g23 : L23 → Cm (L23 ⊕ (List Action) × Int)
  | .h0 (l7) (l9) => (.ite (!decide (l7 = [])) (.ite (decide ((↑l7.length : Int) < (4 : Int))) (.ret (.inr (([]), (10))))
  (.chk ((0 : Int) ≤ (4 : Int) ∧ (4 : Int) ≤ (↑l7.length : Int)) (.chk ((0 : Int) ≤ (2 : Int) ∧ (2 : Int) ≤ (↑(4 : Nat) : Int)) (.get (f50 (List.drop (2 : Nat) (List.take (4 : Nat) l7))) fun (y10 : Int) => (.ite (decide ((↑l7.length : Int) < IntKind.i64.wrap y10)) (.ret (.inr (([]), (10))))
  (.ite (decide (IntKind.i64.wrap y10 < 8)) (.ret (.inr (([]), (11))))
  (.chk ((0 : Int) ≤ IntKind.i64.wrap y10 ∧ IntKind.i64.wrap y10 ≤ (↑l7.length : Int)) (.get (f51 (List.drop (0 : Nat) (List.take (IntKind.i64.wrap y10).toNat l7))) fun (y11 : Action) => (.ite (!f15 y11) (.ret (.inr (([]), (11))))
  (.get (f31 y11) fun (y12 : List UInt8) => (.chk ((0 : Int) ≤ IntKind.i64.wrap y10 ∧ IntKind.i64.wrap y10 ≤ (↑l7.length : Int)) (.ite (!decide (y12 = List.drop (0 : Nat) (List.take (IntKind.i64.wrap y10).toNat l7))) (.ret (.inr (([]), (11))))
  (.chk ((1 : Nat) ≤ [y11].length) (.chk (l9.length = l9.length ∧ (l9.length + (List.take (1 : Nat) (List.drop (0 : Nat) [y11])).length) * (24 : Nat) ≤ nat_lit 140737488355328 ∧ l9.length + (List.take (1 : Nat) (List.drop (0 : Nat) [y11])).length ≤ nat_lit 140737488355328) (.chk ((0 : Int) ≤ IntKind.i64.wrap y10 ∧ IntKind.i64.wrap y10 ≤ (↑l7.length : Int)) (.ite (decide ((32 : Int) < (↑(l9 ++ List.take (1 : Nat) (List.drop (0 : Nat) [y11])).length : Int))) (.ret (.inr (([]), (44))))
  (.chk ((l9 ++ List.take (1 : Nat) (List.drop (0 : Nat) [y11])).length = (l9 ++ List.take (1 : Nat) (List.drop (0 : Nat) [y11])).length) (.ret (.inl (.h0 (List.drop (IntKind.i64.wrap y10).toNat (List.take l7.length l7)) (l9 ++ List.take (1 : Nat) (List.drop (0 : Nat) [y11]))))))))))))))))))))))
  (.chk ((0 : Nat) + l9.length ≤ l9.length) (.ret (.inr ((List.take l9.length (List.drop (0 : Nat) l9)), (0))))))
theorem E23 : ∀ s, headC C tab knActG1_51 i23.rs H23 (.tup [(.lst 31), (.i .i64)]) 5000 (m23 s) = (g23 s).map (Sum.map m23 (fun (r : (List Action) × Int) => (((.tup [(.lst 31 (r.1)), (.i .i64 (r.2))])) : SV Th)))
  | .h0 (l7) (l9) => by kernel_rfl
noncomputable def s23 (a0 : List UInt8) : Cm (L23 ⊕ (List Action) × Int) :=
  (.chk (@Eq Nat (@OfNat.ofNat Nat (nat_lit 0) (instOfNatNat (nat_lit 0))) (@List.length (Th (@OfNat.ofNat Nat (nat_lit 31) (instOfNatNat (nat_lit 31)))) (@List.nil (Th (@OfNat.ofNat Nat (nat_lit 31) (instOfNatNat (nat_lit 31))))))) (.ret (.inl (.h0 (a0) ([])))))
theorem ES23 (y : ATup Th [.s]) : startC C tab knActG1_51 i23 H23 (.tup [(.lst 31), (.i .i64)]) 5000 (encAs G [.s] y) = (s23 (y.1)).map (Sum.map m23 (fun (r : (List Action) × Int) => (((.tup [(.lst 31 (r.1)), (.i .i64 (r.2))])) : SV Th))) := by kernel_rfl
noncomputable def f23 (a0 : List UInt8) : Option ((List Action) × Int) := runO g23 (s23 (a0))
theorem Q23 (y : ATup Th [.s]) (r : (List Action) × Int) (h : f23 (y.1) = some r) : PCall Try.prog C 23 (encAs G [.s] y) (· = (fun (r : (List Action) × Int) => (((.tup [(.lst 31 (r.1)), (.i .i64 (r.2))])) : SV Th)) r) := runO_sound gok.ok koActG1_51 tabKnows E23 k23 rfl (by kernel_rfl) (by kernel_rfl) (ES23 y) h
noncomputable def knActG1_23 : KnownF Th := (23, knG G [.s] fun y => .get (f23 (y.1)) fun r => .ret ((fun (r : (List Action) × Int) => (((.tup [(.lst 31 (r.1)), (.i .i64 (r.2))])) : SV Th)) r)) :: knActG1_51
theorem koActG1_23 : KnownOk Try.prog C knActG1_23 := KnownOk.add gok koActG1_51 (known_opt (enc := fun (r : (List Go.Proofs.Act.Action) × Int) => (((.tup [(.lst 31 (r.1)), (.i .i64 (r.2))])) : SV Th)) Q23 (fun _ => rfl))
-- 62 slices.Grow[[]drover/api.Action,drover/api.Action]
noncomputable def u62 (a0 : List Action) (a1 : Int) : Cm ((List Action)) :=
  (.ite (decide (a1 < 0)) .no
  .no)
noncomputable def f62 (a0 : List Action) (a1 : Int) : Option ((List Action)) := (u62 (a0) (a1)).opt
theorem E62 (y : ATup Th [.l 31, .i .i64]) : startC C tab knActG1_23 i62 [] (.lst 31) 5000 (encAs G [.l 31, .i .i64] y) = (u62 (y.1) (y.2.1)).map (fun r => .inr ((fun (r : (List Action)) => (((.lst 31 (r))) : SV Th)) r)) := by kernel_rfl
theorem Q62 (y : ATup Th [.l 31, .i .i64]) (r : (List Action)) (h : f62 (y.1) (y.2.1) = some r) : PCall Try.prog C 62 (encAs G [.l 31, .i .i64] y) (· = (fun (r : (List Action)) => (((.lst 31 (r))) : SV Th)) r) := one_sound gok.ok koActG1_23 tabKnows k62 (by kernel_rfl) (by kernel_rfl) (E62 y) (Cm.den_opt h rfl)
noncomputable def knActG1_62 : KnownF Th := (62, knG G [.l 31, .i .i64] fun y => .get (f62 (y.1) (y.2.1)) fun r => .ret ((fun (r : (List Action)) => (((.lst 31 (r))) : SV Th)) r)) :: knActG1_23
theorem koActG1_62 : KnownOk Try.prog C knActG1_62 := KnownOk.add gok koActG1_23 (known_opt (enc := fun (r : (List Go.Proofs.Act.Action)) => (((.lst 31 (r))) : SV Th)) Q62 (fun _ => rfl))
-- 34 slices.Concat[[]drover/api.Action,drover/api.Action]
def H34 : List (List Nat × Hint) := [([36013], ⟨[11, 3, 9, 0, 10], [], [], [], [], [], [], 0⟩),
  ([36029], ⟨[27, 6, 25, 26], [], [], [], [], [], [], 0⟩)]
inductive L34 where
  | h0 (a0 : List (List Action)) (i2 : Int) (i3 : Int)
  | h1 (a0 : List (List Action)) (l4 : List Action)
noncomputable def m34 : L34 → Trip Th
  | .h0 (a0) (i2) (i3) => ([(.lp 36 c34_6), (.blk 0), (.seq 36 c34_17)], [(11, (.i .i64 (i2))), (3, (.i .i64 (i3))), (9, (.lst 22 (a0))), (0, (.lst 22 (a0))), (10, (.i .i64 ((↑a0.length : Int))))], [])
  | .h1 (a0) (l4) => ([(.lp 36 c34_13), (.blk 2), (.seq 36 c34_15)], [(27, (.i .i64 0)), (6, (.lst 31 (l4))), (25, (.lst 22 (a0))), (26, (.i .i64 ((↑a0.length : Int))))], [])
noncomputable def g34 : L34 → Cm (L34 ⊕ (List Action))
  | .h0 (a0) (i2) (i3) => (.ite (decide (i2 < (↑a0.length : Int))) (.chk ((0 : Int) ≤ i2) (.get (a0[i2.toNat]?) fun (y5 : List Action) => (.ite (decide (IntKind.i64.wrap (i3 + (↑y5.length : Int)) < (0 : Int))) .no
  (.ret (.inl (.h0 (a0) (IntKind.i64.wrap (i2 + 1)) (IntKind.i64.wrap (i3 + (↑y5.length : Int)))))))))
  (.get (f62 [] i3) fun (y6 : List Action) => (.ret (.inl (.h1 (a0) (y6))))))
  | .h1 (a0) (l4) => (.ite (decide ((0 : Int) < (↑a0.length : Int))) (.chk ((0 : Int) ≤ (0 : Int)) (.get (a0[(0 : Nat)]?) fun (y7 : List Action) => .no))
  (.ret (.inr (l4))))
theorem E34 : ∀ s, headC C tab knActG1_62 i34.rs H34 (.lst 31) 5000 (m34 s) = (g34 s).map (Sum.map m34 (fun (r : (List Action)) => (((.lst 31 (r))) : SV Th)))
  | .h0 (a0) (i2) (i3) => by kernel_rfl
  | .h1 (a0) (l4) => by kernel_rfl
noncomputable def s34 (a0 : List (List Action)) : Cm (L34 ⊕ (List Action)) :=
  (.ret (.inl (.h0 (a0) (0) (0))))
theorem ES34 (y : ATup Th [.l 22]) : startC C tab knActG1_62 i34 H34 (.lst 31) 5000 (encAs G [.l 22] y) = (s34 (y.1)).map (Sum.map m34 (fun (r : (List Action)) => (((.lst 31 (r))) : SV Th))) := by kernel_rfl
noncomputable def f34 (a0 : List (List Action)) : Option ((List Action)) := runO g34 (s34 (a0))
theorem Q34 (y : ATup Th [.l 22]) (r : (List Action)) (h : f34 (y.1) = some r) : PCall Try.prog C 34 (encAs G [.l 22] y) (· = (fun (r : (List Action)) => (((.lst 31 (r))) : SV Th)) r) := runO_sound gok.ok koActG1_62 tabKnows E34 k34 rfl (by kernel_rfl) (by kernel_rfl) (ES34 y) h
noncomputable def knActG1_34 : KnownF Th := (34, knG G [.l 22] fun y => .get (f34 (y.1)) fun r => .ret ((fun (r : (List Action)) => (((.lst 31 (r))) : SV Th)) r)) :: knActG1_62
theorem koActG1_34 : KnownOk Try.prog C knActG1_34 := KnownOk.add gok koActG1_62 (known_opt (enc := fun (r : (List Go.Proofs.Act.Action)) => (((.lst 31 (r))) : SV Th)) Q34 (fun _ => rfl))
-- 63 slices.Index[[]int,int]
def H63 : List (List Nat × Hint) := [([19010], ⟨[8, 0, 1, 7], [], [], [], [], [], [], 0⟩)]
inductive L63 where
  | h0 (a0 : List Int) (a1 : Int) (i1 : Int)
noncomputable def m63 : L63 → Trip Th
  | .h0 (a0) (a1) (i1) => ([(.lp 19 c63_5), (.blk 0), (.seq 19 c63_7)], [(8, (.i .i64 (i1))), (0, (.lst 3 (a0))), (1, (.i .i64 (a1))), (7, (.i .i64 ((↑a0.length : Int))))], [])
noncomputable def g63 : L63 → Cm (L63 ⊕ Int)
  | .h0 (a0) (a1) (i1) => (.ite (decide (i1 < (↑a0.length : Int))) (.chk ((0 : Int) ≤ i1) (.get (a0[i1.toNat]?) fun (y2 : Int) => (.ite (decide (a1 = y2)) (.ret (.inr (i1)))
  (.ret (.inl (.h0 (a0) (a1) (IntKind.i64.wrap (i1 + 1))))))))
  (.ret (.inr (-1))))
theorem E63 : ∀ s, headC C tab knActG1_34 i63.rs H63 (.i .i64) 5000 (m63 s) = (g63 s).map (Sum.map m63 (fun (r : Int) => (((.i .i64 (r))) : SV Th)))
  | .h0 (a0) (a1) (i1) => by kernel_rfl
noncomputable def s63 (a0 : List Int) (a1 : Int) : Cm (L63 ⊕ Int) :=
  (.ret (.inl (.h0 (a0) (a1) (0))))
theorem ES63 (y : ATup Th [.l 3, .i .i64]) : startC C tab knActG1_34 i63 H63 (.i .i64) 5000 (encAs G [.l 3, .i .i64] y) = (s63 (y.1) (y.2.1)).map (Sum.map m63 (fun (r : Int) => (((.i .i64 (r))) : SV Th))) := by kernel_rfl
noncomputable def f63 (a0 : List Int) (a1 : Int) : Option (Int) := runO g63 (s63 (a0) (a1))
theorem Q63 (y : ATup Th [.l 3, .i .i64]) (r : Int) (h : f63 (y.1) (y.2.1) = some r) : PCall Try.prog C 63 (encAs G [.l 3, .i .i64] y) (· = (fun (r : Int) => (((.i .i64 (r))) : SV Th)) r) := runO_sound gok.ok koActG1_34 tabKnows E63 k63 rfl (by kernel_rfl) (by kernel_rfl) (ES63 y) h
noncomputable def knActG1_63 : KnownF Th := (63, knG G [.l 3, .i .i64] fun y => .get (f63 (y.1) (y.2.1)) fun r => .ret ((fun (r : Int) => (((.i .i64 (r))) : SV Th)) r)) :: knActG1_34
theorem koActG1_63 : KnownOk Try.prog C knActG1_63 := KnownOk.add gok koActG1_34 (known_opt (enc := fun (r : Int) => (((.i .i64 (r))) : SV Th)) Q63 (fun _ => rfl))
-- 37 drover/act.place
noncomputable def u37 (a0 : Action) : Cm (Int) :=
  (.chk (Nat.le (@OfNat.ofNat Nat (nat_lit 6) (instOfNatNat (nat_lit 6))) (@List.length Int (@List.cons Int (@OfNat.ofNat Int (nat_lit 0) (@instOfNat (nat_lit 0))) (@List.cons Int (@OfNat.ofNat Int (nat_lit 4) (@instOfNat (nat_lit 4))) (@List.cons Int (@OfNat.ofNat Int (nat_lit 3) (@instOfNat (nat_lit 3))) (@List.cons Int (@OfNat.ofNat Int (nat_lit 5) (@instOfNat (nat_lit 5))) (@List.cons Int (@OfNat.ofNat Int (nat_lit 2) (@instOfNat (nat_lit 2))) (@List.cons Int (@OfNat.ofNat Int (nat_lit 1) (@instOfNat (nat_lit 1))) (@List.nil Int))))))))) (.get (f63 (List.take (6 : Nat) (List.drop (0 : Nat) [(0 : Int), (4 : Int), (3 : Int), (5 : Int), (2 : Int), (1 : Int)])) a0.Kind) fun (y0 : Int) => (.ret (y0))))
noncomputable def f37 (a0 : Action) : Option (Int) := (u37 (a0)).opt
theorem E37 (y : ATup Th [.t 31]) : startC C tab knActG1_63 i37 [] (.i .i64) 5000 (encAs G [.t 31] y) = (u37 (y.1)).map (fun r => .inr ((fun (r : Int) => (((.i .i64 (r))) : SV Th)) r)) := by kernel_rfl
theorem Q37 (y : ATup Th [.t 31]) (r : Int) (h : f37 (y.1) = some r) : PCall Try.prog C 37 (encAs G [.t 31] y) (· = (fun (r : Int) => (((.i .i64 (r))) : SV Th)) r) := one_sound gok.ok koActG1_63 tabKnows k37 (by kernel_rfl) (by kernel_rfl) (E37 y) (Cm.den_opt h rfl)
noncomputable def knActG1_37 : KnownF Th := (37, knG G [.t 31] fun y => .get (f37 (y.1)) fun r => .ret ((fun (r : Int) => (((.i .i64 (r))) : SV Th)) r)) :: knActG1_63
theorem koActG1_37 : KnownOk Try.prog C knActG1_37 := KnownOk.add gok koActG1_63 (known_opt (enc := fun (r : Int) => (((.i .i64 (r))) : SV Th)) Q37 (fun _ => rfl))
-- 36 drover/act.Merge$1
noncomputable def u36 (a0 : Action) : Cm (Bool) :=
  (.get (f37 a0) fun (y0 : Int) => (.ret (decide (y0 < 1))))
noncomputable def f36 (a0 : Action) : Option (Bool) := (u36 (a0)).opt
theorem E36 (y : ATup Th [.t 31]) : startC C tab knActG1_37 i36 [] .b 5000 (encAs G [.t 31] y) = (u36 (y.1)).map (fun r => .inr ((fun (r : Bool) => (((.b (r))) : SV Th)) r)) := by kernel_rfl
theorem Q36 (y : ATup Th [.t 31]) (r : Bool) (h : f36 (y.1) = some r) : PCall Try.prog C 36 (encAs G [.t 31] y) (· = (fun (r : Bool) => (((.b (r))) : SV Th)) r) := one_sound gok.ok koActG1_37 tabKnows k36 (by kernel_rfl) (by kernel_rfl) (E36 y) (Cm.den_opt h rfl)
noncomputable def knActG1_36 : KnownF Th := (36, knG G [.t 31] fun y => .get (f36 (y.1)) fun r => .ret ((fun (r : Bool) => (((.b (r))) : SV Th)) r)) :: knActG1_37
theorem koActG1_36 : KnownOk Try.prog C knActG1_36 := KnownOk.add gok koActG1_37 (known_opt (enc := fun (r : Bool) => (((.b (r))) : SV Th)) Q36 (fun _ => rfl))
-- 66 (drover/field.Seen).has
noncomputable def u66 (a0 : field_Seen) (a1 : Int) : Cm (Bool) :=
  (.ite (decide (a1 = 1)) (.ret (Bool.true))
  (.ite (decide (a1 = 2)) (.ret (Bool.true))
  (.ite (decide (a1 = 3)) (.ret (Bool.true))
  (.ite (decide (a1 = 4)) (.ret (Bool.true))
  (.ite (decide (a1 = 5)) (.ret (decide (a0.P.Type_ = 2048)))
  (.ite (decide (a1 = 6)) (.ret (decide (a0.P.Type_ = 2048)))
  (.ite (decide (a1 = 7)) (.ret (decide (a0.P.Type_ = 2048)))
  (.ite (decide (a1 = 8)) (.ite (decide (a0.P.Type_ = 2048)) (.ite (decide (a0.P.Proto = 6)) (.ret (Bool.true))
  (.ret (decide (a0.P.Proto = 17))))
  (.ret (Bool.false)))
  (.ite (decide (a1 = 9)) (.ite (decide (a0.P.Type_ = 2048)) (.ite (decide (a0.P.Proto = 6)) (.ret (Bool.true))
  (.ret (decide (a0.P.Proto = 17))))
  (.ret (Bool.false)))
  (.ret (Bool.false)))))))))))
noncomputable def f66 (a0 : field_Seen) (a1 : Int) : Bool := (u66 (a0) (a1)).tot default
theorem E66 (y : ATup Th [.t 41, .i .i64]) : startC C tab knActG1_36 i66 [] .b 5000 (encAs G [.t 41, .i .i64] y) = (u66 (y.1) (y.2.1)).map (fun r => .inr ((fun (r : Bool) => (((.b (r))) : SV Th)) r)) := by kernel_rfl
theorem Q66 (y : ATup Th [.t 41, .i .i64]) : PCall Try.prog C 66 (encAs G [.t 41, .i .i64] y) (· = (fun (r : Bool) => (((.b (r))) : SV Th)) (f66 (y.1) (y.2.1))) := one_sound gok.ok koActG1_36 tabKnows k66 (by kernel_rfl) (by kernel_rfl) (E66 y) (Cm.den_tot default (by kernel_rfl) rfl)
noncomputable def knActG1_66 : KnownF Th := (66, knG G [.t 41, .i .i64] fun y => .ret ((fun (r : Bool) => (((.b (r))) : SV Th)) (f66 (y.1) (y.2.1)))) :: knActG1_36
theorem koActG1_66 : KnownOk Try.prog C knActG1_66 := KnownOk.add gok koActG1_36 (known_tot (enc := fun (r : Bool) => (((.b (r))) : SV Th)) Q66 (fun _ => rfl))
-- 67 drover/field.greatest
noncomputable def u67 (a0 : Int) : Cm (Int) :=
  (.chk ((0 : Int) ≤ IntKind.i64.wrap ((64 : Int) - f33 a0)) (.ret (Int.fdiv 18446744073709551615 (2 ^ Min.min (IntKind.i64.wrap (64 - f33 a0)).toNat 64))))
noncomputable def f67 (a0 : Int) : Option (Int) := (u67 (a0)).opt
theorem E67 (y : ATup Th [.i .i64]) : startC C tab knActG1_66 i67 [] (.i .u64) 5000 (encAs G [.i .i64] y) = (u67 (y.1)).map (fun r => .inr ((fun (r : Int) => (((.i .u64 (r))) : SV Th)) r)) := by kernel_rfl
theorem Q67 (y : ATup Th [.i .i64]) (r : Int) (h : f67 (y.1) = some r) : PCall Try.prog C 67 (encAs G [.i .i64] y) (· = (fun (r : Int) => (((.i .u64 (r))) : SV Th)) r) := one_sound gok.ok koActG1_66 tabKnows k67 (by kernel_rfl) (by kernel_rfl) (E67 y) (Cm.den_opt h rfl)
noncomputable def knActG1_67 : KnownF Th := (67, knG G [.i .i64] fun y => .get (f67 (y.1)) fun r => .ret ((fun (r : Int) => (((.i .u64 (r))) : SV Th)) r)) :: knActG1_66
theorem koActG1_67 : KnownOk Try.prog C knActG1_67 := KnownOk.add gok koActG1_66 (known_opt (enc := fun (r : Int) => (((.i .u64 (r))) : SV Th)) Q67 (fun _ => rfl))
-- 45 drover/field.Put
noncomputable def u45 (a0 : field_Seen) (a1 : Int) (a2 : Int) : Cm (field_Seen × Int) :=
  (.ite (decide (a1 = 1)) (.ret (⟨(0), (0), ⟨(0), (0), (0), (0), (0), (0), (0), (0), (0), (0), ([])⟩⟩, (20)))
  (.ite (decide (a1 = 4)) (.ret (⟨(0), (0), ⟨(0), (0), (0), (0), (0), (0), (0), (0), (0), (0), ([])⟩⟩, (20)))
  (.ite (decide (a1 = 7)) (.ret (⟨(0), (0), ⟨(0), (0), (0), (0), (0), (0), (0), (0), (0), (0), ([])⟩⟩, (20)))
  (.ite (!f66 a0 a1) (.ret (⟨(0), (0), ⟨(0), (0), (0), (0), (0), (0), (0), (0), (0), (0), ([])⟩⟩, (20)))
  (.get (f67 a1) fun (y0 : Int) => (.ite (decide (y0 < a2)) (.ret (⟨(0), (0), ⟨(0), (0), (0), (0), (0), (0), (0), (0), (0), (0), ([])⟩⟩, (1)))
  (.ite (decide (a1 = 3)) (.ite (decide (a2 < 4096)) (.ret (⟨(0), (0), ⟨(0), (0), (0), (0), (0), (0), (0), (0), (0), (0), ([])⟩⟩, (1)))
  (.ite (decide (a1 = 3)) (.ite (decide (a0.P.Vlan = 0)) (.ret (⟨(0), (0), ⟨(0), (0), (0), (0), (0), (0), (0), (0), (0), (0), ([])⟩⟩, (31)))
  (.ite (decide (a1 = 2)) (.ret (⟨(a0.In), (a2), ⟨(a0.P.To), (a0.P.From), (a0.P.Vlan), (a0.P.Type_), (a0.P.Src), (a0.P.Dst), (a0.P.Life), (a0.P.Proto), (a0.P.Sport), (a0.P.Dport), (a0.P.Data)⟩⟩, (0)))
  (.ite (decide (a1 = 3)) (.ret (⟨(a0.In), (a0.Meta), ⟨(a0.P.To), (a0.P.From), (IntKind.i64.wrap a2), (a0.P.Type_), (a0.P.Src), (a0.P.Dst), (a0.P.Life), (a0.P.Proto), (a0.P.Sport), (a0.P.Dport), (a0.P.Data)⟩⟩, (0)))
  (.ite (decide (a1 = 5)) (.ret (⟨(a0.In), (a0.Meta), ⟨(a0.P.To), (a0.P.From), (a0.P.Vlan), (a0.P.Type_), (IntKind.u32.wrap a2), (a0.P.Dst), (a0.P.Life), (a0.P.Proto), (a0.P.Sport), (a0.P.Dport), (a0.P.Data)⟩⟩, (0)))
  (.ite (decide (a1 = 6)) (.ret (⟨(a0.In), (a0.Meta), ⟨(a0.P.To), (a0.P.From), (a0.P.Vlan), (a0.P.Type_), (a0.P.Src), (IntKind.u32.wrap a2), (a0.P.Life), (a0.P.Proto), (a0.P.Sport), (a0.P.Dport), (a0.P.Data)⟩⟩, (0)))
  (.ite (decide (a1 = 8)) (.ret (⟨(a0.In), (a0.Meta), ⟨(a0.P.To), (a0.P.From), (a0.P.Vlan), (a0.P.Type_), (a0.P.Src), (a0.P.Dst), (a0.P.Life), (a0.P.Proto), (IntKind.i64.wrap a2), (a0.P.Dport), (a0.P.Data)⟩⟩, (0)))
  (.ite (decide (a1 = 9)) (.ret (⟨(a0.In), (a0.Meta), ⟨(a0.P.To), (a0.P.From), (a0.P.Vlan), (a0.P.Type_), (a0.P.Src), (a0.P.Dst), (a0.P.Life), (a0.P.Proto), (a0.P.Sport), (IntKind.i64.wrap a2), (a0.P.Data)⟩⟩, (0)))
  (.ret (⟨(a0.In), (a0.Meta), ⟨(a0.P.To), (a0.P.From), (a0.P.Vlan), (a0.P.Type_), (a0.P.Src), (a0.P.Dst), (a0.P.Life), (a0.P.Proto), (a0.P.Sport), (a0.P.Dport), (a0.P.Data)⟩⟩, (0))))))))))
  (.ite (decide (a1 = 2)) (.ret (⟨(a0.In), (a2), ⟨(a0.P.To), (a0.P.From), (a0.P.Vlan), (a0.P.Type_), (a0.P.Src), (a0.P.Dst), (a0.P.Life), (a0.P.Proto), (a0.P.Sport), (a0.P.Dport), (a0.P.Data)⟩⟩, (0)))
  (.ite (decide (a1 = 3)) (.ret (⟨(a0.In), (a0.Meta), ⟨(a0.P.To), (a0.P.From), (IntKind.i64.wrap a2), (a0.P.Type_), (a0.P.Src), (a0.P.Dst), (a0.P.Life), (a0.P.Proto), (a0.P.Sport), (a0.P.Dport), (a0.P.Data)⟩⟩, (0)))
  (.ite (decide (a1 = 5)) (.ret (⟨(a0.In), (a0.Meta), ⟨(a0.P.To), (a0.P.From), (a0.P.Vlan), (a0.P.Type_), (IntKind.u32.wrap a2), (a0.P.Dst), (a0.P.Life), (a0.P.Proto), (a0.P.Sport), (a0.P.Dport), (a0.P.Data)⟩⟩, (0)))
  (.ite (decide (a1 = 6)) (.ret (⟨(a0.In), (a0.Meta), ⟨(a0.P.To), (a0.P.From), (a0.P.Vlan), (a0.P.Type_), (a0.P.Src), (IntKind.u32.wrap a2), (a0.P.Life), (a0.P.Proto), (a0.P.Sport), (a0.P.Dport), (a0.P.Data)⟩⟩, (0)))
  (.ite (decide (a1 = 8)) (.ret (⟨(a0.In), (a0.Meta), ⟨(a0.P.To), (a0.P.From), (a0.P.Vlan), (a0.P.Type_), (a0.P.Src), (a0.P.Dst), (a0.P.Life), (a0.P.Proto), (IntKind.i64.wrap a2), (a0.P.Dport), (a0.P.Data)⟩⟩, (0)))
  (.ite (decide (a1 = 9)) (.ret (⟨(a0.In), (a0.Meta), ⟨(a0.P.To), (a0.P.From), (a0.P.Vlan), (a0.P.Type_), (a0.P.Src), (a0.P.Dst), (a0.P.Life), (a0.P.Proto), (a0.P.Sport), (IntKind.i64.wrap a2), (a0.P.Data)⟩⟩, (0)))
  (.ret (⟨(a0.In), (a0.Meta), ⟨(a0.P.To), (a0.P.From), (a0.P.Vlan), (a0.P.Type_), (a0.P.Src), (a0.P.Dst), (a0.P.Life), (a0.P.Proto), (a0.P.Sport), (a0.P.Dport), (a0.P.Data)⟩⟩, (0)))))))))))
  (.ite (decide (a1 = 3)) (.ite (decide (a0.P.Vlan = 0)) (.ret (⟨(0), (0), ⟨(0), (0), (0), (0), (0), (0), (0), (0), (0), (0), ([])⟩⟩, (31)))
  (.ite (decide (a1 = 2)) (.ret (⟨(a0.In), (a2), ⟨(a0.P.To), (a0.P.From), (a0.P.Vlan), (a0.P.Type_), (a0.P.Src), (a0.P.Dst), (a0.P.Life), (a0.P.Proto), (a0.P.Sport), (a0.P.Dport), (a0.P.Data)⟩⟩, (0)))
  (.ite (decide (a1 = 3)) (.ret (⟨(a0.In), (a0.Meta), ⟨(a0.P.To), (a0.P.From), (IntKind.i64.wrap a2), (a0.P.Type_), (a0.P.Src), (a0.P.Dst), (a0.P.Life), (a0.P.Proto), (a0.P.Sport), (a0.P.Dport), (a0.P.Data)⟩⟩, (0)))
  (.ite (decide (a1 = 5)) (.ret (⟨(a0.In), (a0.Meta), ⟨(a0.P.To), (a0.P.From), (a0.P.Vlan), (a0.P.Type_), (IntKind.u32.wrap a2), (a0.P.Dst), (a0.P.Life), (a0.P.Proto), (a0.P.Sport), (a0.P.Dport), (a0.P.Data)⟩⟩, (0)))
  (.ite (decide (a1 = 6)) (.ret (⟨(a0.In), (a0.Meta), ⟨(a0.P.To), (a0.P.From), (a0.P.Vlan), (a0.P.Type_), (a0.P.Src), (IntKind.u32.wrap a2), (a0.P.Life), (a0.P.Proto), (a0.P.Sport), (a0.P.Dport), (a0.P.Data)⟩⟩, (0)))
  (.ite (decide (a1 = 8)) (.ret (⟨(a0.In), (a0.Meta), ⟨(a0.P.To), (a0.P.From), (a0.P.Vlan), (a0.P.Type_), (a0.P.Src), (a0.P.Dst), (a0.P.Life), (a0.P.Proto), (IntKind.i64.wrap a2), (a0.P.Dport), (a0.P.Data)⟩⟩, (0)))
  (.ite (decide (a1 = 9)) (.ret (⟨(a0.In), (a0.Meta), ⟨(a0.P.To), (a0.P.From), (a0.P.Vlan), (a0.P.Type_), (a0.P.Src), (a0.P.Dst), (a0.P.Life), (a0.P.Proto), (a0.P.Sport), (IntKind.i64.wrap a2), (a0.P.Data)⟩⟩, (0)))
  (.ret (⟨(a0.In), (a0.Meta), ⟨(a0.P.To), (a0.P.From), (a0.P.Vlan), (a0.P.Type_), (a0.P.Src), (a0.P.Dst), (a0.P.Life), (a0.P.Proto), (a0.P.Sport), (a0.P.Dport), (a0.P.Data)⟩⟩, (0))))))))))
  (.ite (decide (a1 = 2)) (.ret (⟨(a0.In), (a2), ⟨(a0.P.To), (a0.P.From), (a0.P.Vlan), (a0.P.Type_), (a0.P.Src), (a0.P.Dst), (a0.P.Life), (a0.P.Proto), (a0.P.Sport), (a0.P.Dport), (a0.P.Data)⟩⟩, (0)))
  (.ite (decide (a1 = 3)) (.ret (⟨(a0.In), (a0.Meta), ⟨(a0.P.To), (a0.P.From), (IntKind.i64.wrap a2), (a0.P.Type_), (a0.P.Src), (a0.P.Dst), (a0.P.Life), (a0.P.Proto), (a0.P.Sport), (a0.P.Dport), (a0.P.Data)⟩⟩, (0)))
  (.ite (decide (a1 = 5)) (.ret (⟨(a0.In), (a0.Meta), ⟨(a0.P.To), (a0.P.From), (a0.P.Vlan), (a0.P.Type_), (IntKind.u32.wrap a2), (a0.P.Dst), (a0.P.Life), (a0.P.Proto), (a0.P.Sport), (a0.P.Dport), (a0.P.Data)⟩⟩, (0)))
  (.ite (decide (a1 = 6)) (.ret (⟨(a0.In), (a0.Meta), ⟨(a0.P.To), (a0.P.From), (a0.P.Vlan), (a0.P.Type_), (a0.P.Src), (IntKind.u32.wrap a2), (a0.P.Life), (a0.P.Proto), (a0.P.Sport), (a0.P.Dport), (a0.P.Data)⟩⟩, (0)))
  (.ite (decide (a1 = 8)) (.ret (⟨(a0.In), (a0.Meta), ⟨(a0.P.To), (a0.P.From), (a0.P.Vlan), (a0.P.Type_), (a0.P.Src), (a0.P.Dst), (a0.P.Life), (a0.P.Proto), (IntKind.i64.wrap a2), (a0.P.Dport), (a0.P.Data)⟩⟩, (0)))
  (.ite (decide (a1 = 9)) (.ret (⟨(a0.In), (a0.Meta), ⟨(a0.P.To), (a0.P.From), (a0.P.Vlan), (a0.P.Type_), (a0.P.Src), (a0.P.Dst), (a0.P.Life), (a0.P.Proto), (a0.P.Sport), (IntKind.i64.wrap a2), (a0.P.Data)⟩⟩, (0)))
  (.ret (⟨(a0.In), (a0.Meta), ⟨(a0.P.To), (a0.P.From), (a0.P.Vlan), (a0.P.Type_), (a0.P.Src), (a0.P.Dst), (a0.P.Life), (a0.P.Proto), (a0.P.Sport), (a0.P.Dport), (a0.P.Data)⟩⟩, (0)))))))))))))))))
noncomputable def f45 (a0 : field_Seen) (a1 : Int) (a2 : Int) : Option (field_Seen × Int) := (u45 (a0) (a1) (a2)).opt
theorem E45 (y : ATup Th [.t 41, .i .i64, .i .u64]) : startC C tab knActG1_67 i45 [] (.tup [(.agg [.i .i64, .i .u64, .i .u64, .i .u64, .i .i64, .i .i64, .i .u32, .i .u32, .i .i64, .i .i64, .i .i64, .i .i64, .s]), (.i .i64)]) 5000 (encAs G [.t 41, .i .i64, .i .u64] y) = (u45 (y.1) (y.2.1) (y.2.2.1)).map (fun r => .inr ((fun (r : field_Seen × Int) => (((.tup [(.agg (cellsG (G.ty 41) (G.to 41 (r.1)))), (.i .i64 (r.2))])) : SV Th)) r)) := by kernel_rfl
theorem Q45 (y : ATup Th [.t 41, .i .i64, .i .u64]) (r : field_Seen × Int) (h : f45 (y.1) (y.2.1) (y.2.2.1) = some r) : PCall Try.prog C 45 (encAs G [.t 41, .i .i64, .i .u64] y) (· = (fun (r : field_Seen × Int) => (((.tup [(.agg (cellsG (G.ty 41) (G.to 41 (r.1)))), (.i .i64 (r.2))])) : SV Th)) r) := one_sound gok.ok koActG1_67 tabKnows k45 (by kernel_rfl) (by kernel_rfl) (E45 y) (Cm.den_opt h rfl)
noncomputable def knActG1_45 : KnownF Th := (45, knG G [.t 41, .i .i64, .i .u64] fun y => .get (f45 (y.1) (y.2.1) (y.2.2.1)) fun r => .ret ((fun (r : field_Seen × Int) => (((.tup [(.agg (cellsG (G.ty 41) (G.to 41 (r.1)))), (.i .i64 (r.2))])) : SV Th)) r)) :: knActG1_67
theorem koActG1_45 : KnownOk Try.prog C knActG1_45 := KnownOk.add gok koActG1_67 (known_opt (enc := fun (r : Go.Proofs.Act.field_Seen × Int) => (((.tup [(.agg (cellsG (G.ty 41) (G.to 41 (r.1)))), (.i .i64 (r.2))])) : SV Th)) Q45 (fun _ => rfl))
-- 20 drover/act.Change
noncomputable def u20 (a0 : field_Seen) (a1 : Action) : Cm (field_Seen) :=
  (.ite (decide (a1.Kind = 3)) (.ite (!decide ((f43 a0 (0 : Int)).snd = (0 : Int))) (.ret ⟨(a0.In), (a0.Meta), ⟨(a0.P.To), (a0.P.From), (a0.P.Vlan), (a0.P.Type_), (a0.P.Src), (a0.P.Dst), (a0.P.Life), (a0.P.Proto), (a0.P.Sport), (a0.P.Dport), (a0.P.Data)⟩⟩)
  (.ret ⟨((f43 a0 0).fst.In), ((f43 a0 0).fst.Meta), ⟨((f43 a0 0).fst.P.To), ((f43 a0 0).fst.P.From), ((f43 a0 0).fst.P.Vlan), ((f43 a0 0).fst.P.Type_), ((f43 a0 0).fst.P.Src), ((f43 a0 0).fst.P.Dst), ((f43 a0 0).fst.P.Life), ((f43 a0 0).fst.P.Proto), ((f43 a0 0).fst.P.Sport), ((f43 a0 0).fst.P.Dport), ((f43 a0 0).fst.P.Data)⟩⟩))
  (.ite (decide (a1.Kind = 4)) (.ite (!decide ((f44 a0).snd = (0 : Int))) (.ret ⟨(a0.In), (a0.Meta), ⟨(a0.P.To), (a0.P.From), (a0.P.Vlan), (a0.P.Type_), (a0.P.Src), (a0.P.Dst), (a0.P.Life), (a0.P.Proto), (a0.P.Sport), (a0.P.Dport), (a0.P.Data)⟩⟩)
  (.ret ⟨((f44 a0).fst.In), ((f44 a0).fst.Meta), ⟨((f44 a0).fst.P.To), ((f44 a0).fst.P.From), ((f44 a0).fst.P.Vlan), ((f44 a0).fst.P.Type_), ((f44 a0).fst.P.Src), ((f44 a0).fst.P.Dst), ((f44 a0).fst.P.Life), ((f44 a0).fst.P.Proto), ((f44 a0).fst.P.Sport), ((f44 a0).fst.P.Dport), ((f44 a0).fst.P.Data)⟩⟩))
  (.ite (decide (a1.Kind = 5)) (.get (f45 a0 a1.Field a1.Value) fun (y0 : field_Seen × Int) => (.ite (!decide (y0.snd = 0)) (.ret ⟨(a0.In), (a0.Meta), ⟨(a0.P.To), (a0.P.From), (a0.P.Vlan), (a0.P.Type_), (a0.P.Src), (a0.P.Dst), (a0.P.Life), (a0.P.Proto), (a0.P.Sport), (a0.P.Dport), (a0.P.Data)⟩⟩)
  (.ret ⟨(y0.fst.In), (y0.fst.Meta), ⟨(y0.fst.P.To), (y0.fst.P.From), (y0.fst.P.Vlan), (y0.fst.P.Type_), (y0.fst.P.Src), (y0.fst.P.Dst), (y0.fst.P.Life), (y0.fst.P.Proto), (y0.fst.P.Sport), (y0.fst.P.Dport), (y0.fst.P.Data)⟩⟩)))
  (.ite (!decide ((0 : Int) = (0 : Int))) (.ret ⟨(a0.In), (a0.Meta), ⟨(a0.P.To), (a0.P.From), (a0.P.Vlan), (a0.P.Type_), (a0.P.Src), (a0.P.Dst), (a0.P.Life), (a0.P.Proto), (a0.P.Sport), (a0.P.Dport), (a0.P.Data)⟩⟩)
  (.ret ⟨(a0.In), (a0.Meta), ⟨(a0.P.To), (a0.P.From), (a0.P.Vlan), (a0.P.Type_), (a0.P.Src), (a0.P.Dst), (a0.P.Life), (a0.P.Proto), (a0.P.Sport), (a0.P.Dport), (a0.P.Data)⟩⟩)))))
noncomputable def f20 (a0 : field_Seen) (a1 : Action) : Option (field_Seen) := (u20 (a0) (a1)).opt
theorem E20 (y : ATup Th [.t 41, .t 31]) : startC C tab knActG1_45 i20 [] (.agg [.i .i64, .i .u64, .i .u64, .i .u64, .i .i64, .i .i64, .i .u32, .i .u32, .i .i64, .i .i64, .i .i64, .i .i64, .s]) 5000 (encAs G [.t 41, .t 31] y) = (u20 (y.1) (y.2.1)).map (fun r => .inr ((fun (r : field_Seen) => (((.agg (cellsG (G.ty 41) (G.to 41 (r))))) : SV Th)) r)) := by kernel_rfl
theorem Q20 (y : ATup Th [.t 41, .t 31]) (r : field_Seen) (h : f20 (y.1) (y.2.1) = some r) : PCall Try.prog C 20 (encAs G [.t 41, .t 31] y) (· = (fun (r : field_Seen) => (((.agg (cellsG (G.ty 41) (G.to 41 (r))))) : SV Th)) r) := one_sound gok.ok koActG1_45 tabKnows k20 (by kernel_rfl) (by kernel_rfl) (E20 y) (Cm.den_opt h rfl)
noncomputable def knActG1_20 : KnownF Th := (20, knG G [.t 41, .t 31] fun y => .get (f20 (y.1) (y.2.1)) fun r => .ret ((fun (r : field_Seen) => (((.agg (cellsG (G.ty 41) (G.to 41 (r))))) : SV Th)) r)) :: knActG1_45
theorem koActG1_20 : KnownOk Try.prog C knActG1_20 := KnownOk.add gok koActG1_45 (known_opt (enc := fun (r : Go.Proofs.Act.field_Seen) => (((.agg (cellsG (G.ty 41) (G.to 41 (r))))) : SV Th)) Q20 (fun _ => rfl))
-- 68 drover/droverref04.Has
noncomputable def u68 (a0 : droverref04_Seen) (a1 : Int) : Cm (Bool) :=
  (.ite (decide (a1 < 1)) (.ret (Bool.false))
  (.ite (decide (9 < a1)) (.ret (Bool.false))
  (.ite (decide (a1 ≤ 4)) (.ret (Bool.true))
  (.ite (!decide (a0.P.Type_ = 2048)) (.ret (Bool.false))
  (.ite (decide (a1 ≤ 7)) (.ret (Bool.true))
  (.ite (decide (a0.P.Proto = 6)) (.ret (Bool.true))
  (.ret (decide (a0.P.Proto = 17)))))))))
noncomputable def f68 (a0 : droverref04_Seen) (a1 : Int) : Bool := (u68 (a0) (a1)).tot default
theorem E68 (y : ATup Th [.t 42, .i .i64]) : startC C tab knActG1_20 i68 [] .b 5000 (encAs G [.t 42, .i .i64] y) = (u68 (y.1) (y.2.1)).map (fun r => .inr ((fun (r : Bool) => (((.b (r))) : SV Th)) r)) := by kernel_rfl
theorem Q68 (y : ATup Th [.t 42, .i .i64]) : PCall Try.prog C 68 (encAs G [.t 42, .i .i64] y) (· = (fun (r : Bool) => (((.b (r))) : SV Th)) (f68 (y.1) (y.2.1))) := one_sound gok.ok koActG1_20 tabKnows k68 (by kernel_rfl) (by kernel_rfl) (E68 y) (Cm.den_tot default (by kernel_rfl) rfl)
noncomputable def knActG1_68 : KnownF Th := (68, knG G [.t 42, .i .i64] fun y => .ret ((fun (r : Bool) => (((.b (r))) : SV Th)) (f68 (y.1) (y.2.1)))) :: knActG1_20
theorem koActG1_68 : KnownOk Try.prog C knActG1_68 := KnownOk.add gok koActG1_20 (known_tot (enc := fun (r : Bool) => (((.b (r))) : SV Th)) Q68 (fun _ => rfl))
-- 69 drover/droverref04.low
noncomputable def u69 (a0 : Int) (a1 : Int) : Cm (Int) :=
  (.ite (decide (a1 = 64)) (.ret (a0))
  (.chk ((0 : Int) ≤ a1) (.ret (IntKind.u64.wrap (↑(BitVec.ofInt 64 a0 &&& BitVec.ofInt 64 (IntKind.u64.wrap (IntKind.u64.wrap (1 * 2 ^ Min.min a1.toNat 64) - 1))).toNat : Int)))))
noncomputable def f69 (a0 : Int) (a1 : Int) : Option (Int) := (u69 (a0) (a1)).opt
theorem E69 (y : ATup Th [.i .u64, .i .i64]) : startC C tab knActG1_68 i69 [] (.i .u64) 5000 (encAs G [.i .u64, .i .i64] y) = (u69 (y.1) (y.2.1)).map (fun r => .inr ((fun (r : Int) => (((.i .u64 (r))) : SV Th)) r)) := by kernel_rfl
theorem Q69 (y : ATup Th [.i .u64, .i .i64]) (r : Int) (h : f69 (y.1) (y.2.1) = some r) : PCall Try.prog C 69 (encAs G [.i .u64, .i .i64] y) (· = (fun (r : Int) => (((.i .u64 (r))) : SV Th)) r) := one_sound gok.ok koActG1_68 tabKnows k69 (by kernel_rfl) (by kernel_rfl) (E69 y) (Cm.den_opt h rfl)
noncomputable def knActG1_69 : KnownF Th := (69, knG G [.i .u64, .i .i64] fun y => .get (f69 (y.1) (y.2.1)) fun r => .ret ((fun (r : Int) => (((.i .u64 (r))) : SV Th)) r)) :: knActG1_68
theorem koActG1_69 : KnownOk Try.prog C knActG1_69 := KnownOk.add gok koActG1_68 (known_opt (enc := fun (r : Int) => (((.i .u64 (r))) : SV Th)) Q69 (fun _ => rfl))
-- 70 drover/droverref04.Width
noncomputable def u70 (a0 : Int) : Cm (Int) :=
  (.ite (decide (a0 < 1)) (.ret (0))
  (.ite (decide (9 < a0)) (.ret (0))
  (.chk ((0 : Int) ≤ IntKind.i64.wrap (a0 - (1 : Int)) ∧ IntKind.i64.wrap (a0 - (1 : Int)) < (↑(9 : Nat) : Int)) (.get ([(32 : Int), (64 : Int), (13 : Int), (16 : Int), (32 : Int), (32 : Int), (8 : Int), (16 : Int), (16 : Int)][(0 : Nat) + (IntKind.i64.wrap (a0 - (1 : Int))).toNat]?) fun (y0 : Int) => (.ret (y0))))))
noncomputable def f70 (a0 : Int) : Option (Int) := (u70 (a0)).opt
theorem E70 (y : ATup Th [.i .i64]) : startC C tab knActG1_69 i70 [] (.i .i64) 5000 (encAs G [.i .i64] y) = (u70 (y.1)).map (fun r => .inr ((fun (r : Int) => (((.i .i64 (r))) : SV Th)) r)) := by kernel_rfl
theorem Q70 (y : ATup Th [.i .i64]) (r : Int) (h : f70 (y.1) = some r) : PCall Try.prog C 70 (encAs G [.i .i64] y) (· = (fun (r : Int) => (((.i .i64 (r))) : SV Th)) r) := one_sound gok.ok koActG1_69 tabKnows k70 (by kernel_rfl) (by kernel_rfl) (E70 y) (Cm.den_opt h rfl)
noncomputable def knActG1_70 : KnownF Th := (70, knG G [.i .i64] fun y => .get (f70 (y.1)) fun r => .ret ((fun (r : Int) => (((.i .i64 (r))) : SV Th)) r)) :: knActG1_69
theorem koActG1_70 : KnownOk Try.prog C knActG1_70 := KnownOk.add gok koActG1_69 (known_opt (enc := fun (r : Int) => (((.i .i64 (r))) : SV Th)) Q70 (fun _ => rfl))
-- 48 drover/droverref04.Put
noncomputable def u48 (a0 : droverref04_Seen) (a1 : Int) (a2 : Int) : Cm (droverref04_Seen × Int) :=
  (.ite (decide (a1 = 1)) (.ret (⟨(0), (0), ⟨(0), (0), (0), (0), (0), (0), (0), (0), (0), (0), ([])⟩⟩, (20)))
  (.ite (decide (a1 = 4)) (.ret (⟨(0), (0), ⟨(0), (0), (0), (0), (0), (0), (0), (0), (0), (0), ([])⟩⟩, (20)))
  (.ite (decide (a1 = 7)) (.ret (⟨(0), (0), ⟨(0), (0), (0), (0), (0), (0), (0), (0), (0), (0), ([])⟩⟩, (20)))
  (.ite (!f68 a0 a1) (.ret (⟨(0), (0), ⟨(0), (0), (0), (0), (0), (0), (0), (0), (0), (0), ([])⟩⟩, (20)))
  (.get (f70 a1) fun (y0 : Int) => (.get (f69 a2 y0) fun (y1 : Int) => (.ite (!decide (y1 = a2)) (.ret (⟨(0), (0), ⟨(0), (0), (0), (0), (0), (0), (0), (0), (0), (0), ([])⟩⟩, (1)))
  (.ite (decide (a1 = 3)) (.ite (decide (a2 < 4096)) (.ret (⟨(0), (0), ⟨(0), (0), (0), (0), (0), (0), (0), (0), (0), (0), ([])⟩⟩, (1)))
  (.ite (decide (a1 = 3)) (.ite (decide (a0.P.Vlan = 0)) (.ret (⟨(0), (0), ⟨(0), (0), (0), (0), (0), (0), (0), (0), (0), (0), ([])⟩⟩, (31)))
  (.ite (decide (a1 = 2)) (.ret (⟨(a0.In), (a2), ⟨(a0.P.To), (a0.P.From), (a0.P.Vlan), (a0.P.Type_), (a0.P.Src), (a0.P.Dst), (a0.P.Life), (a0.P.Proto), (a0.P.Sport), (a0.P.Dport), (a0.P.Data)⟩⟩, (0)))
  (.ite (decide (a1 = 3)) (.ret (⟨(a0.In), (a0.Meta), ⟨(a0.P.To), (a0.P.From), (IntKind.i64.wrap a2), (a0.P.Type_), (a0.P.Src), (a0.P.Dst), (a0.P.Life), (a0.P.Proto), (a0.P.Sport), (a0.P.Dport), (a0.P.Data)⟩⟩, (0)))
  (.ite (decide (a1 = 5)) (.ret (⟨(a0.In), (a0.Meta), ⟨(a0.P.To), (a0.P.From), (a0.P.Vlan), (a0.P.Type_), (IntKind.u32.wrap a2), (a0.P.Dst), (a0.P.Life), (a0.P.Proto), (a0.P.Sport), (a0.P.Dport), (a0.P.Data)⟩⟩, (0)))
  (.ite (decide (a1 = 6)) (.ret (⟨(a0.In), (a0.Meta), ⟨(a0.P.To), (a0.P.From), (a0.P.Vlan), (a0.P.Type_), (a0.P.Src), (IntKind.u32.wrap a2), (a0.P.Life), (a0.P.Proto), (a0.P.Sport), (a0.P.Dport), (a0.P.Data)⟩⟩, (0)))
  (.ite (decide (a1 = 8)) (.ret (⟨(a0.In), (a0.Meta), ⟨(a0.P.To), (a0.P.From), (a0.P.Vlan), (a0.P.Type_), (a0.P.Src), (a0.P.Dst), (a0.P.Life), (a0.P.Proto), (IntKind.i64.wrap a2), (a0.P.Dport), (a0.P.Data)⟩⟩, (0)))
  (.ite (decide (a1 = 9)) (.ret (⟨(a0.In), (a0.Meta), ⟨(a0.P.To), (a0.P.From), (a0.P.Vlan), (a0.P.Type_), (a0.P.Src), (a0.P.Dst), (a0.P.Life), (a0.P.Proto), (a0.P.Sport), (IntKind.i64.wrap a2), (a0.P.Data)⟩⟩, (0)))
  (.ret (⟨(a0.In), (a0.Meta), ⟨(a0.P.To), (a0.P.From), (a0.P.Vlan), (a0.P.Type_), (a0.P.Src), (a0.P.Dst), (a0.P.Life), (a0.P.Proto), (a0.P.Sport), (a0.P.Dport), (a0.P.Data)⟩⟩, (0))))))))))
  (.ite (decide (a1 = 2)) (.ret (⟨(a0.In), (a2), ⟨(a0.P.To), (a0.P.From), (a0.P.Vlan), (a0.P.Type_), (a0.P.Src), (a0.P.Dst), (a0.P.Life), (a0.P.Proto), (a0.P.Sport), (a0.P.Dport), (a0.P.Data)⟩⟩, (0)))
  (.ite (decide (a1 = 3)) (.ret (⟨(a0.In), (a0.Meta), ⟨(a0.P.To), (a0.P.From), (IntKind.i64.wrap a2), (a0.P.Type_), (a0.P.Src), (a0.P.Dst), (a0.P.Life), (a0.P.Proto), (a0.P.Sport), (a0.P.Dport), (a0.P.Data)⟩⟩, (0)))
  (.ite (decide (a1 = 5)) (.ret (⟨(a0.In), (a0.Meta), ⟨(a0.P.To), (a0.P.From), (a0.P.Vlan), (a0.P.Type_), (IntKind.u32.wrap a2), (a0.P.Dst), (a0.P.Life), (a0.P.Proto), (a0.P.Sport), (a0.P.Dport), (a0.P.Data)⟩⟩, (0)))
  (.ite (decide (a1 = 6)) (.ret (⟨(a0.In), (a0.Meta), ⟨(a0.P.To), (a0.P.From), (a0.P.Vlan), (a0.P.Type_), (a0.P.Src), (IntKind.u32.wrap a2), (a0.P.Life), (a0.P.Proto), (a0.P.Sport), (a0.P.Dport), (a0.P.Data)⟩⟩, (0)))
  (.ite (decide (a1 = 8)) (.ret (⟨(a0.In), (a0.Meta), ⟨(a0.P.To), (a0.P.From), (a0.P.Vlan), (a0.P.Type_), (a0.P.Src), (a0.P.Dst), (a0.P.Life), (a0.P.Proto), (IntKind.i64.wrap a2), (a0.P.Dport), (a0.P.Data)⟩⟩, (0)))
  (.ite (decide (a1 = 9)) (.ret (⟨(a0.In), (a0.Meta), ⟨(a0.P.To), (a0.P.From), (a0.P.Vlan), (a0.P.Type_), (a0.P.Src), (a0.P.Dst), (a0.P.Life), (a0.P.Proto), (a0.P.Sport), (IntKind.i64.wrap a2), (a0.P.Data)⟩⟩, (0)))
  (.ret (⟨(a0.In), (a0.Meta), ⟨(a0.P.To), (a0.P.From), (a0.P.Vlan), (a0.P.Type_), (a0.P.Src), (a0.P.Dst), (a0.P.Life), (a0.P.Proto), (a0.P.Sport), (a0.P.Dport), (a0.P.Data)⟩⟩, (0)))))))))))
  (.ite (decide (a1 = 3)) (.ite (decide (a0.P.Vlan = 0)) (.ret (⟨(0), (0), ⟨(0), (0), (0), (0), (0), (0), (0), (0), (0), (0), ([])⟩⟩, (31)))
  (.ite (decide (a1 = 2)) (.ret (⟨(a0.In), (a2), ⟨(a0.P.To), (a0.P.From), (a0.P.Vlan), (a0.P.Type_), (a0.P.Src), (a0.P.Dst), (a0.P.Life), (a0.P.Proto), (a0.P.Sport), (a0.P.Dport), (a0.P.Data)⟩⟩, (0)))
  (.ite (decide (a1 = 3)) (.ret (⟨(a0.In), (a0.Meta), ⟨(a0.P.To), (a0.P.From), (IntKind.i64.wrap a2), (a0.P.Type_), (a0.P.Src), (a0.P.Dst), (a0.P.Life), (a0.P.Proto), (a0.P.Sport), (a0.P.Dport), (a0.P.Data)⟩⟩, (0)))
  (.ite (decide (a1 = 5)) (.ret (⟨(a0.In), (a0.Meta), ⟨(a0.P.To), (a0.P.From), (a0.P.Vlan), (a0.P.Type_), (IntKind.u32.wrap a2), (a0.P.Dst), (a0.P.Life), (a0.P.Proto), (a0.P.Sport), (a0.P.Dport), (a0.P.Data)⟩⟩, (0)))
  (.ite (decide (a1 = 6)) (.ret (⟨(a0.In), (a0.Meta), ⟨(a0.P.To), (a0.P.From), (a0.P.Vlan), (a0.P.Type_), (a0.P.Src), (IntKind.u32.wrap a2), (a0.P.Life), (a0.P.Proto), (a0.P.Sport), (a0.P.Dport), (a0.P.Data)⟩⟩, (0)))
  (.ite (decide (a1 = 8)) (.ret (⟨(a0.In), (a0.Meta), ⟨(a0.P.To), (a0.P.From), (a0.P.Vlan), (a0.P.Type_), (a0.P.Src), (a0.P.Dst), (a0.P.Life), (a0.P.Proto), (IntKind.i64.wrap a2), (a0.P.Dport), (a0.P.Data)⟩⟩, (0)))
  (.ite (decide (a1 = 9)) (.ret (⟨(a0.In), (a0.Meta), ⟨(a0.P.To), (a0.P.From), (a0.P.Vlan), (a0.P.Type_), (a0.P.Src), (a0.P.Dst), (a0.P.Life), (a0.P.Proto), (a0.P.Sport), (IntKind.i64.wrap a2), (a0.P.Data)⟩⟩, (0)))
  (.ret (⟨(a0.In), (a0.Meta), ⟨(a0.P.To), (a0.P.From), (a0.P.Vlan), (a0.P.Type_), (a0.P.Src), (a0.P.Dst), (a0.P.Life), (a0.P.Proto), (a0.P.Sport), (a0.P.Dport), (a0.P.Data)⟩⟩, (0))))))))))
  (.ite (decide (a1 = 2)) (.ret (⟨(a0.In), (a2), ⟨(a0.P.To), (a0.P.From), (a0.P.Vlan), (a0.P.Type_), (a0.P.Src), (a0.P.Dst), (a0.P.Life), (a0.P.Proto), (a0.P.Sport), (a0.P.Dport), (a0.P.Data)⟩⟩, (0)))
  (.ite (decide (a1 = 3)) (.ret (⟨(a0.In), (a0.Meta), ⟨(a0.P.To), (a0.P.From), (IntKind.i64.wrap a2), (a0.P.Type_), (a0.P.Src), (a0.P.Dst), (a0.P.Life), (a0.P.Proto), (a0.P.Sport), (a0.P.Dport), (a0.P.Data)⟩⟩, (0)))
  (.ite (decide (a1 = 5)) (.ret (⟨(a0.In), (a0.Meta), ⟨(a0.P.To), (a0.P.From), (a0.P.Vlan), (a0.P.Type_), (IntKind.u32.wrap a2), (a0.P.Dst), (a0.P.Life), (a0.P.Proto), (a0.P.Sport), (a0.P.Dport), (a0.P.Data)⟩⟩, (0)))
  (.ite (decide (a1 = 6)) (.ret (⟨(a0.In), (a0.Meta), ⟨(a0.P.To), (a0.P.From), (a0.P.Vlan), (a0.P.Type_), (a0.P.Src), (IntKind.u32.wrap a2), (a0.P.Life), (a0.P.Proto), (a0.P.Sport), (a0.P.Dport), (a0.P.Data)⟩⟩, (0)))
  (.ite (decide (a1 = 8)) (.ret (⟨(a0.In), (a0.Meta), ⟨(a0.P.To), (a0.P.From), (a0.P.Vlan), (a0.P.Type_), (a0.P.Src), (a0.P.Dst), (a0.P.Life), (a0.P.Proto), (IntKind.i64.wrap a2), (a0.P.Dport), (a0.P.Data)⟩⟩, (0)))
  (.ite (decide (a1 = 9)) (.ret (⟨(a0.In), (a0.Meta), ⟨(a0.P.To), (a0.P.From), (a0.P.Vlan), (a0.P.Type_), (a0.P.Src), (a0.P.Dst), (a0.P.Life), (a0.P.Proto), (a0.P.Sport), (IntKind.i64.wrap a2), (a0.P.Data)⟩⟩, (0)))
  (.ret (⟨(a0.In), (a0.Meta), ⟨(a0.P.To), (a0.P.From), (a0.P.Vlan), (a0.P.Type_), (a0.P.Src), (a0.P.Dst), (a0.P.Life), (a0.P.Proto), (a0.P.Sport), (a0.P.Dport), (a0.P.Data)⟩⟩, (0))))))))))))))))))
noncomputable def f48 (a0 : droverref04_Seen) (a1 : Int) (a2 : Int) : Option (droverref04_Seen × Int) := (u48 (a0) (a1) (a2)).opt
theorem E48 (y : ATup Th [.t 42, .i .i64, .i .u64]) : startC C tab knActG1_70 i48 [] (.tup [(.agg [.i .i64, .i .u64, .i .u64, .i .u64, .i .i64, .i .i64, .i .u32, .i .u32, .i .i64, .i .i64, .i .i64, .i .i64, .s]), (.i .i64)]) 5000 (encAs G [.t 42, .i .i64, .i .u64] y) = (u48 (y.1) (y.2.1) (y.2.2.1)).map (fun r => .inr ((fun (r : droverref04_Seen × Int) => (((.tup [(.agg (cellsG (G.ty 42) (G.to 42 (r.1)))), (.i .i64 (r.2))])) : SV Th)) r)) := by kernel_rfl
theorem Q48 (y : ATup Th [.t 42, .i .i64, .i .u64]) (r : droverref04_Seen × Int) (h : f48 (y.1) (y.2.1) (y.2.2.1) = some r) : PCall Try.prog C 48 (encAs G [.t 42, .i .i64, .i .u64] y) (· = (fun (r : droverref04_Seen × Int) => (((.tup [(.agg (cellsG (G.ty 42) (G.to 42 (r.1)))), (.i .i64 (r.2))])) : SV Th)) r) := one_sound gok.ok koActG1_70 tabKnows k48 (by kernel_rfl) (by kernel_rfl) (E48 y) (Cm.den_opt h rfl)
noncomputable def knActG1_48 : KnownF Th := (48, knG G [.t 42, .i .i64, .i .u64] fun y => .get (f48 (y.1) (y.2.1) (y.2.2.1)) fun r => .ret ((fun (r : droverref04_Seen × Int) => (((.tup [(.agg (cellsG (G.ty 42) (G.to 42 (r.1)))), (.i .i64 (r.2))])) : SV Th)) r)) :: knActG1_70
theorem koActG1_48 : KnownOk Try.prog C knActG1_48 := KnownOk.add gok koActG1_70 (known_opt (enc := fun (r : Go.Proofs.Act.droverref04_Seen × Int) => (((.tup [(.agg (cellsG (G.ty 42) (G.to 42 (r.1)))), (.i .i64 (r.2))])) : SV Th)) Q48 (fun _ => rfl))
-- 21 drover/droverref06.Change
noncomputable def u21 (a0 : droverref04_Seen) (a1 : Action) : Cm (droverref04_Seen) :=
  (.ite (decide (a1.Kind = 3)) (.ite (!decide ((f46 a0 (0 : Int)).snd = (0 : Int))) (.ret ⟨(a0.In), (a0.Meta), ⟨(a0.P.To), (a0.P.From), (a0.P.Vlan), (a0.P.Type_), (a0.P.Src), (a0.P.Dst), (a0.P.Life), (a0.P.Proto), (a0.P.Sport), (a0.P.Dport), (a0.P.Data)⟩⟩)
  (.ret ⟨((f46 a0 0).fst.In), ((f46 a0 0).fst.Meta), ⟨((f46 a0 0).fst.P.To), ((f46 a0 0).fst.P.From), ((f46 a0 0).fst.P.Vlan), ((f46 a0 0).fst.P.Type_), ((f46 a0 0).fst.P.Src), ((f46 a0 0).fst.P.Dst), ((f46 a0 0).fst.P.Life), ((f46 a0 0).fst.P.Proto), ((f46 a0 0).fst.P.Sport), ((f46 a0 0).fst.P.Dport), ((f46 a0 0).fst.P.Data)⟩⟩))
  (.ite (decide (a1.Kind = 4)) (.ite (!decide ((f47 a0).snd = (0 : Int))) (.ret ⟨(a0.In), (a0.Meta), ⟨(a0.P.To), (a0.P.From), (a0.P.Vlan), (a0.P.Type_), (a0.P.Src), (a0.P.Dst), (a0.P.Life), (a0.P.Proto), (a0.P.Sport), (a0.P.Dport), (a0.P.Data)⟩⟩)
  (.ret ⟨((f47 a0).fst.In), ((f47 a0).fst.Meta), ⟨((f47 a0).fst.P.To), ((f47 a0).fst.P.From), ((f47 a0).fst.P.Vlan), ((f47 a0).fst.P.Type_), ((f47 a0).fst.P.Src), ((f47 a0).fst.P.Dst), ((f47 a0).fst.P.Life), ((f47 a0).fst.P.Proto), ((f47 a0).fst.P.Sport), ((f47 a0).fst.P.Dport), ((f47 a0).fst.P.Data)⟩⟩))
  (.ite (decide (a1.Kind = 5)) (.get (f48 a0 a1.Field a1.Value) fun (y0 : droverref04_Seen × Int) => (.ite (!decide (y0.snd = 0)) (.ret ⟨(a0.In), (a0.Meta), ⟨(a0.P.To), (a0.P.From), (a0.P.Vlan), (a0.P.Type_), (a0.P.Src), (a0.P.Dst), (a0.P.Life), (a0.P.Proto), (a0.P.Sport), (a0.P.Dport), (a0.P.Data)⟩⟩)
  (.ret ⟨(y0.fst.In), (y0.fst.Meta), ⟨(y0.fst.P.To), (y0.fst.P.From), (y0.fst.P.Vlan), (y0.fst.P.Type_), (y0.fst.P.Src), (y0.fst.P.Dst), (y0.fst.P.Life), (y0.fst.P.Proto), (y0.fst.P.Sport), (y0.fst.P.Dport), (y0.fst.P.Data)⟩⟩)))
  (.ite (!decide ((22 : Int) = (0 : Int))) (.ret ⟨(a0.In), (a0.Meta), ⟨(a0.P.To), (a0.P.From), (a0.P.Vlan), (a0.P.Type_), (a0.P.Src), (a0.P.Dst), (a0.P.Life), (a0.P.Proto), (a0.P.Sport), (a0.P.Dport), (a0.P.Data)⟩⟩)
  (.ret ⟨(a0.In), (a0.Meta), ⟨(a0.P.To), (a0.P.From), (a0.P.Vlan), (a0.P.Type_), (a0.P.Src), (a0.P.Dst), (a0.P.Life), (a0.P.Proto), (a0.P.Sport), (a0.P.Dport), (a0.P.Data)⟩⟩)))))
noncomputable def f21 (a0 : droverref04_Seen) (a1 : Action) : Option (droverref04_Seen) := (u21 (a0) (a1)).opt
theorem E21 (y : ATup Th [.t 42, .t 31]) : startC C tab knActG1_48 i21 [] (.agg [.i .i64, .i .u64, .i .u64, .i .u64, .i .i64, .i .i64, .i .u32, .i .u32, .i .i64, .i .i64, .i .i64, .i .i64, .s]) 5000 (encAs G [.t 42, .t 31] y) = (u21 (y.1) (y.2.1)).map (fun r => .inr ((fun (r : droverref04_Seen) => (((.agg (cellsG (G.ty 42) (G.to 42 (r))))) : SV Th)) r)) := by kernel_rfl
theorem Q21 (y : ATup Th [.t 42, .t 31]) (r : droverref04_Seen) (h : f21 (y.1) (y.2.1) = some r) : PCall Try.prog C 21 (encAs G [.t 42, .t 31] y) (· = (fun (r : droverref04_Seen) => (((.agg (cellsG (G.ty 42) (G.to 42 (r))))) : SV Th)) r) := one_sound gok.ok koActG1_48 tabKnows k21 (by kernel_rfl) (by kernel_rfl) (E21 y) (Cm.den_opt h rfl)
noncomputable def knActG1_21 : KnownF Th := (21, knG G [.t 42, .t 31] fun y => .get (f21 (y.1) (y.2.1)) fun r => .ret ((fun (r : droverref04_Seen) => (((.agg (cellsG (G.ty 42) (G.to 42 (r))))) : SV Th)) r)) :: knActG1_48
theorem koActG1_21 : KnownOk Try.prog C knActG1_21 := KnownOk.add gok koActG1_48 (known_opt (enc := fun (r : Go.Proofs.Act.droverref04_Seen) => (((.agg (cellsG (G.ty 42) (G.to 42 (r))))) : SV Th)) Q21 (fun _ => rfl))
-- 71 drover/nums.Read
-- 73 drover/act.named
def H73 : List (List Nat × Hint) := [([24007], ⟨[3, 0], [], [], [], [], [], [], 0⟩)]
inductive L73 where
  | h0 (a0 : Int) (i1 : Int)
noncomputable def m73 : L73 → Trip Th
  | .h0 (a0) (i1) => ([(.lp 24 c73_6), (.blk 0), (.seq 24 c73_8)], [(3, (.i .i64 (i1))), (0, (.i .u64 (a0)))], [])
noncomputable def g73 : L73 → Cm (L73 ⊕ Int)
  | .h0 (a0) (i1) => (.ite (decide (i1 ≤ 9)) (.ite (decide ((0 : Int) < (f32 i1).snd)) (.ite (decide (IntKind.u64.wrap ((2 : Int) * (f32 i1).fst) = a0)) (.ret (.inr (i1)))
  (.ret (.inl (.h0 (a0) (IntKind.i64.wrap (i1 + 1))))))
  (.ret (.inl (.h0 (a0) (IntKind.i64.wrap (i1 + 1))))))
  (.ret (.inr (0))))
theorem E73 : ∀ s, headC C tab knActG1_21 i73.rs H73 (.i .i64) 5000 (m73 s) = (g73 s).map (Sum.map m73 (fun (r : Int) => (((.i .i64 (r))) : SV Th)))
  | .h0 (a0) (i1) => by kernel_rfl
noncomputable def s73 (a0 : Int) : Cm (L73 ⊕ Int) :=
  (.ret (.inl (.h0 (a0) (3))))
theorem ES73 (y : ATup Th [.i .u64]) : startC C tab knActG1_21 i73 H73 (.i .i64) 5000 (encAs G [.i .u64] y) = (s73 (y.1)).map (Sum.map m73 (fun (r : Int) => (((.i .i64 (r))) : SV Th))) := by kernel_rfl
noncomputable def f73 (a0 : Int) : Option (Int) := runO g73 (s73 (a0))
theorem Q73 (y : ATup Th [.i .u64]) (r : Int) (h : f73 (y.1) = some r) : PCall Try.prog C 73 (encAs G [.i .u64] y) (· = (fun (r : Int) => (((.i .i64 (r))) : SV Th)) r) := runO_sound gok.ok koActG1_21 tabKnows E73 k73 rfl (by kernel_rfl) (by kernel_rfl) (ES73 y) h
noncomputable def knActG1_73 : KnownF Th := (73, knG G [.i .u64] fun y => .get (f73 (y.1)) fun r => .ret ((fun (r : Int) => (((.i .i64 (r))) : SV Th)) r)) :: knActG1_21
theorem koActG1_73 : KnownOk Try.prog C knActG1_73 := KnownOk.add gok koActG1_21 (known_opt (enc := fun (r : Int) => (((.i .i64 (r))) : SV Th)) Q73 (fun _ => rfl))
-- 74 drover/frame.below
def H74 : List (List Nat × Hint) := [([21011], ⟨[9, 0, 7, 8], [], [], [], [], [], [], 0⟩)]
inductive L74 where
  | h0 (a0 : Int) (a1 : List Int) (i3 : Int)
noncomputable def m74 : L74 → Trip Th
  | .h0 (a0) (a1) (i3) => ([(.lp 21 c74_5), (.blk 0), (.seq 21 c74_7)], [(9, (.i .i64 (i3))), (0, (.i .i64 (a0))), (7, (.lst 3 (a1))), (8, (.i .i64 ((↑a1.length : Int))))], [])
noncomputable def g74 : L74 → Cm (L74 ⊕ Bool)
  | .h0 (a0) (a1) (i3) => (.ite (decide (i3 < (↑a1.length : Int))) (.chk ((0 : Int) ≤ i3) (.get (a1[i3.toNat]?) fun (y4 : Int) => (.ite (decide (y4 < (0 : Int))) (.ret (.inr (Bool.false)))
  (.ite (decide (a0 < y4)) (.ret (.inr (Bool.false)))
  (.ret (.inl (.h0 (a0) (a1) (IntKind.i64.wrap (i3 + 1)))))))))
  (.ret (.inr (Bool.true))))
theorem E74 : ∀ s, headC C tab knActG1_73 i74.rs H74 .b 5000 (m74 s) = (g74 s).map (Sum.map m74 (fun (r : Bool) => (((.b (r))) : SV Th)))
  | .h0 (a0) (a1) (i3) => by kernel_rfl
noncomputable def s74 (a0 : Int) (a1 : List Int) : Cm (L74 ⊕ Bool) :=
  (.ret (.inl (.h0 (a0) (a1) (0))))
theorem ES74 (y : ATup Th [.i .i64, .l 3]) : startC C tab knActG1_73 i74 H74 .b 5000 (encAs G [.i .i64, .l 3] y) = (s74 (y.1) (y.2.1)).map (Sum.map m74 (fun (r : Bool) => (((.b (r))) : SV Th))) := by kernel_rfl
noncomputable def f74 (a0 : Int) (a1 : List Int) : Option (Bool) := runO g74 (s74 (a0) (a1))
theorem Q74 (y : ATup Th [.i .i64, .l 3]) (r : Bool) (h : f74 (y.1) (y.2.1) = some r) : PCall Try.prog C 74 (encAs G [.i .i64, .l 3] y) (· = (fun (r : Bool) => (((.b (r))) : SV Th)) r) := runO_sound gok.ok koActG1_73 tabKnows E74 k74 rfl (by kernel_rfl) (by kernel_rfl) (ES74 y) h
noncomputable def knActG1_74 : KnownF Th := (74, knG G [.i .i64, .l 3] fun y => .get (f74 (y.1) (y.2.1)) fun r => .ret ((fun (r : Bool) => (((.b (r))) : SV Th)) r)) :: knActG1_73
theorem koActG1_74 : KnownOk Try.prog C knActG1_74 := KnownOk.add gok koActG1_73 (known_opt (enc := fun (r : Bool) => (((.b (r))) : SV Th)) Q74 (fun _ => rfl))
-- 75 drover/frame.ported
noncomputable def u75 (a0 : Packet) : Cm (Bool) :=
  (.ite (decide (a0.Proto = 6)) (.ret (Bool.true))
  (.ret (decide (a0.Proto = 17))))
noncomputable def f75 (a0 : Packet) : Bool := (u75 (a0)).tot default
theorem E75 (y : ATup Th [.t 39]) : startC C tab knActG1_74 i75 [] .b 5000 (encAs G [.t 39] y) = (u75 (y.1)).map (fun r => .inr ((fun (r : Bool) => (((.b (r))) : SV Th)) r)) := by kernel_rfl
theorem Q75 (y : ATup Th [.t 39]) : PCall Try.prog C 75 (encAs G [.t 39] y) (· = (fun (r : Bool) => (((.b (r))) : SV Th)) (f75 (y.1))) := one_sound gok.ok koActG1_74 tabKnows k75 (by kernel_rfl) (by kernel_rfl) (E75 y) (Cm.den_tot default (by kernel_rfl) rfl)
noncomputable def knActG1_75 : KnownF Th := (75, knG G [.t 39] fun y => .ret ((fun (r : Bool) => (((.b (r))) : SV Th)) (f75 (y.1)))) :: knActG1_74
theorem koActG1_75 : KnownOk Try.prog C knActG1_75 := KnownOk.add gok koActG1_74 (known_tot (enc := fun (r : Bool) => (((.b (r))) : SV Th)) Q75 (fun _ => rfl))
-- 52 drover/frame.right
noncomputable def u52 (a0 : Packet) : Cm (Bool) :=
  (.chk ((0 : Int) ≤ (48 : Int)) (.ite (decide (0 < a0.To.fdiv (2 ^ 48))) (.ret (Bool.false))
  (.chk ((0 : Int) ≤ (48 : Int)) (.ite (decide (0 < a0.From.fdiv (2 ^ 48))) (.ret (Bool.false))
  (.ite (!decide (a0.Vlan = 0)) (.chk ((0 : Int) ≤ (12 : Int)) (.ite (!decide (a0.Vlan.fdiv (2 ^ 12) = 1)) (.ret (Bool.false))
  (.chk (Nat.le (1 : Nat) [a0.Type_].length) (.get (f74 (65535 : Int) (List.take (1 : Nat) (List.drop (0 : Nat) [a0.Type_]))) fun (y0 : Bool) => (.ite (!y0) (.ret (Bool.false))
  (.ite (decide (a0.Type_ < 1536)) (.ret (Bool.false))
  (.ite (decide (a0.Type_ = 33024)) (.ret (Bool.false))
  (.ite (!decide (a0.Type_ = 2048)) (.ite (decide (a0.Src = 0)) (.ite (decide (a0.Dst = 0)) (.chk (Nat.le (4 : Nat) [a0.Life, a0.Proto, a0.Sport, a0.Dport].length) (.get (f74 (0 : Int) (List.take (4 : Nat) (List.drop (0 : Nat) [a0.Life, a0.Proto, a0.Sport, a0.Dport]))) fun (y1 : Bool) => (.ret (y1))))
  (.ret (Bool.false)))
  (.ret (Bool.false)))
  (.chk (Nat.le (2 : Nat) [a0.Life, a0.Proto].length) (.get (f74 (255 : Int) (List.take (2 : Nat) (List.drop (0 : Nat) [a0.Life, a0.Proto]))) fun (y2 : Bool) => (.ite (y2) (.chk (Nat.le (2 : Nat) [a0.Sport, a0.Dport].length) (.get (f74 (65535 : Int) (List.take (2 : Nat) (List.drop (0 : Nat) [a0.Sport, a0.Dport]))) fun (y3 : Bool) => (.ite (y3) (.ite (f75 a0) (.ret (Bool.true))
  (.ite (decide (a0.Sport = 0)) (.ret (decide (a0.Dport = 0)))
  (.ret (Bool.false))))
  (.ret (Bool.false)))))
  (.ret (Bool.false)))))))))))))
  (.chk (Nat.le (1 : Nat) [a0.Type_].length) (.get (f74 (65535 : Int) (List.take (1 : Nat) (List.drop (0 : Nat) [a0.Type_]))) fun (y4 : Bool) => (.ite (!y4) (.ret (Bool.false))
  (.ite (decide (a0.Type_ < 1536)) (.ret (Bool.false))
  (.ite (decide (a0.Type_ = 33024)) (.ret (Bool.false))
  (.ite (!decide (a0.Type_ = 2048)) (.ite (decide (a0.Src = 0)) (.ite (decide (a0.Dst = 0)) (.chk (Nat.le (4 : Nat) [a0.Life, a0.Proto, a0.Sport, a0.Dport].length) (.get (f74 (0 : Int) (List.take (4 : Nat) (List.drop (0 : Nat) [a0.Life, a0.Proto, a0.Sport, a0.Dport]))) fun (y5 : Bool) => (.ret (y5))))
  (.ret (Bool.false)))
  (.ret (Bool.false)))
  (.chk (Nat.le (2 : Nat) [a0.Life, a0.Proto].length) (.get (f74 (255 : Int) (List.take (2 : Nat) (List.drop (0 : Nat) [a0.Life, a0.Proto]))) fun (y6 : Bool) => (.ite (y6) (.chk (Nat.le (2 : Nat) [a0.Sport, a0.Dport].length) (.get (f74 (65535 : Int) (List.take (2 : Nat) (List.drop (0 : Nat) [a0.Sport, a0.Dport]))) fun (y7 : Bool) => (.ite (y7) (.ite (f75 a0) (.ret (Bool.true))
  (.ite (decide (a0.Sport = 0)) (.ret (decide (a0.Dport = 0)))
  (.ret (Bool.false))))
  (.ret (Bool.false)))))
  (.ret (Bool.false))))))))))))))))
noncomputable def f52 (a0 : Packet) : Option (Bool) := (u52 (a0)).opt
theorem E52 (y : ATup Th [.t 39]) : startC C tab knActG1_75 i52 [] .b 5000 (encAs G [.t 39] y) = (u52 (y.1)).map (fun r => .inr ((fun (r : Bool) => (((.b (r))) : SV Th)) r)) := by kernel_rfl
theorem Q52 (y : ATup Th [.t 39]) (r : Bool) (h : f52 (y.1) = some r) : PCall Try.prog C 52 (encAs G [.t 39] y) (· = (fun (r : Bool) => (((.b (r))) : SV Th)) r) := one_sound gok.ok koActG1_75 tabKnows k52 (by kernel_rfl) (by kernel_rfl) (E52 y) (Cm.den_opt h rfl)
noncomputable def knActG1_52 : KnownF Th := (52, knG G [.t 39] fun y => .get (f52 (y.1)) fun r => .ret ((fun (r : Bool) => (((.b (r))) : SV Th)) r)) :: knActG1_75
theorem koActG1_52 : KnownOk Try.prog C knActG1_52 := KnownOk.add gok koActG1_75 (known_opt (enc := fun (r : Bool) => (((.b (r))) : SV Th)) Q52 (fun _ => rfl))
-- 81 drover/nums.Put
def H81 : List (List Nat × Hint) := [([46031], ⟨[29, 0, 1, 6, 28], [], [], [], [], [6], [], 0⟩)]
inductive L81 where
  | h0 (a0 : Int) (a1 : Int) (i1 : Int) (l3 : List Int)
noncomputable def m81 : L81 → Trip Th
  | .h0 (a0) (a1) (i1) (l3) => ([(.lp 46 c81_5), (.blk 0), (.seq 46 c81_7)], [(29, (.i .i64 (i1))), (0, (.i .u64 (a0))), (1, (.i .i64 (a1))), (6, (.sl 5 0 0 (l3.length) .none)), (28, (.i .i64 ((↑(List.replicate a1.toNat (0 : Int)).length : Int))))], [(.arr 5 (l3))])
noncomputable def g81 : L81 → Cm (L81 ⊕ (List UInt8) × Int)
  | .h0 (a0) (a1) (i1) (l3) => (.ite (decide (i1 < (↑(List.replicate a1.toNat (0 : Int)).length : Int))) (.chk ((0 : Int) ≤ IntKind.i64.wrap ((8 : Int) * i1)) (.chk ((0 : Int) ≤ IntKind.i64.wrap (IntKind.i64.wrap (a1 - (1 : Int)) - i1) ∧ IntKind.i64.wrap (IntKind.i64.wrap (a1 - (1 : Int)) - i1) < (↑l3.length : Int)) (.get (l3[(0 : Nat) + (IntKind.i64.wrap (IntKind.i64.wrap (a1 - (1 : Int)) - i1)).toNat]?) fun (y4 : Int) => (.chk (l3.length = (l3.set ((0 : Nat) + (IntKind.i64.wrap (IntKind.i64.wrap (a1 - (1 : Int)) - i1)).toNat) (IntKind.u8.wrap (a0.fdiv ((2 : Int) ^ Min.min (IntKind.i64.wrap ((8 : Int) * i1)).toNat (64 : Nat))))).length) (.ret (.inl (.h0 (a0) (a1) (IntKind.i64.wrap (i1 + 1)) (l3.set ((0 : Nat) + (IntKind.i64.wrap (IntKind.i64.wrap (a1 - (1 : Int)) - i1)).toNat) (IntKind.u8.wrap (a0.fdiv ((2 : Int) ^ Min.min (IntKind.i64.wrap ((8 : Int) * i1)).toNat (64 : Nat))))))))))))
  (.chk ((0 : Nat) + l3.length ≤ l3.length) (.ret (.inr ((List.map (fun (x : Int) => UInt8.ofNat x.toNat) (List.take l3.length (List.drop (0 : Nat) l3))), (0))))))
theorem E81 : ∀ s, headC C tab knActG1_52 i81.rs H81 (.tup [.s, (.i .i64)]) 5000 (m81 s) = (g81 s).map (Sum.map m81 (fun (r : (List UInt8) × Int) => (((.tup [(.s (r.1)), (.i .i64 (r.2))])) : SV Th)))
  | .h0 (a0) (a1) (i1) (l3) => by kernel_rfl
noncomputable def s81 (a0 : Int) (a1 : Int) : Cm (L81 ⊕ (List UInt8) × Int) :=
  (.ite (decide (a1 < 1)) (.ret (.inr (([]), (1))))
  (.ite (decide (8 < a1)) (.ret (.inr (([]), (1))))
  (.ite (decide (a1 < 8)) (.chk ((0 : Int) ≤ IntKind.i64.wrap ((8 : Int) * a1)) (.ite (decide (0 < a0.fdiv (2 ^ Min.min (IntKind.i64.wrap (8 * a1)).toNat 64))) (.ret (.inr (([]), (1))))
  (.chk ((0 : Int) ≤ a1 ∧ a1 ≤ a1 ∧ a1 * (↑(1 : Nat) : Int) ≤ (281474976710656 : Int)) (.chk ((List.replicate a1.toNat (0 : Int)).length = (List.replicate a1.toNat (0 : Int)).length) (.ret (.inl (.h0 (a0) (a1) (0) (List.replicate a1.toNat (0 : Int)))))))))
  (.chk ((0 : Int) ≤ a1 ∧ a1 ≤ a1 ∧ a1 * (↑(1 : Nat) : Int) ≤ (281474976710656 : Int)) (.chk ((List.replicate a1.toNat (0 : Int)).length = (List.replicate a1.toNat (0 : Int)).length) (.ret (.inl (.h0 (a0) (a1) (0) (List.replicate a1.toNat (0 : Int))))))))))
theorem ES81 (y : ATup Th [.i .u64, .i .i64]) : startC C tab knActG1_52 i81 H81 (.tup [.s, (.i .i64)]) 5000 (encAs G [.i .u64, .i .i64] y) = (s81 (y.1) (y.2.1)).map (Sum.map m81 (fun (r : (List UInt8) × Int) => (((.tup [(.s (r.1)), (.i .i64 (r.2))])) : SV Th))) := by kernel_rfl
noncomputable def f81 (a0 : Int) (a1 : Int) : Option ((List UInt8) × Int) := runO g81 (s81 (a0) (a1))
theorem Q81 (y : ATup Th [.i .u64, .i .i64]) (r : (List UInt8) × Int) (h : f81 (y.1) (y.2.1) = some r) : PCall Try.prog C 81 (encAs G [.i .u64, .i .i64] y) (· = (fun (r : (List UInt8) × Int) => (((.tup [(.s (r.1)), (.i .i64 (r.2))])) : SV Th)) r) := runO_sound gok.ok koActG1_52 tabKnows E81 k81 rfl (by kernel_rfl) (by kernel_rfl) (ES81 y) h
noncomputable def knActG1_81 : KnownF Th := (81, knG G [.i .u64, .i .i64] fun y => .get (f81 (y.1) (y.2.1)) fun r => .ret ((fun (r : (List UInt8) × Int) => (((.tup [(.s (r.1)), (.i .i64 (r.2))])) : SV Th)) r)) :: knActG1_52
theorem koActG1_81 : KnownOk Try.prog C knActG1_81 := KnownOk.add gok koActG1_52 (known_opt (enc := fun (r : (List UInt8) × Int) => (((.tup [(.s (r.1)), (.i .i64 (r.2))])) : SV Th)) Q81 (fun _ => rfl))
-- 57 drover/act.put
noncomputable def u57 (a0 : Int) (a1 : Int) : Cm ((List UInt8)) :=
  (.get (f81 a0 a1) fun (y0 : List UInt8 × Int) => (.ret (y0.fst)))
noncomputable def f57 (a0 : Int) (a1 : Int) : Option ((List UInt8)) := (u57 (a0) (a1)).opt
theorem E57 (y : ATup Th [.i .u64, .i .i64]) : startC C tab knActG1_81 i57 [] .s 5000 (encAs G [.i .u64, .i .i64] y) = (u57 (y.1) (y.2.1)).map (fun r => .inr ((fun (r : (List UInt8)) => (((.s (r))) : SV Th)) r)) := by kernel_rfl
theorem Q57 (y : ATup Th [.i .u64, .i .i64]) (r : (List UInt8)) (h : f57 (y.1) (y.2.1) = some r) : PCall Try.prog C 57 (encAs G [.i .u64, .i .i64] y) (· = (fun (r : (List UInt8)) => (((.s (r))) : SV Th)) r) := one_sound gok.ok koActG1_81 tabKnows k57 (by kernel_rfl) (by kernel_rfl) (E57 y) (Cm.den_opt h rfl)
noncomputable def knActG1_57 : KnownF Th := (57, knG G [.i .u64, .i .i64] fun y => .get (f57 (y.1) (y.2.1)) fun r => .ret ((fun (r : (List UInt8)) => (((.s (r))) : SV Th)) r)) :: knActG1_81
theorem koActG1_57 : KnownOk Try.prog C knActG1_57 := KnownOk.add gok koActG1_81 (known_opt (enc := fun (r : (List UInt8)) => (((.s (r))) : SV Th)) Q57 (fun _ => rfl))
-- 76 drover/frame.put
noncomputable def u76 (a0 : Int) (a1 : Int) : Cm ((List UInt8)) :=
  (.get (f81 a0 a1) fun (y0 : List UInt8 × Int) => (.ret (y0.fst)))
noncomputable def f76 (a0 : Int) (a1 : Int) : Option ((List UInt8)) := (u76 (a0) (a1)).opt
theorem E76 (y : ATup Th [.i .u64, .i .i64]) : startC C tab knActG1_57 i76 [] .s 5000 (encAs G [.i .u64, .i .i64] y) = (u76 (y.1) (y.2.1)).map (fun r => .inr ((fun (r : (List UInt8)) => (((.s (r))) : SV Th)) r)) := by kernel_rfl
theorem Q76 (y : ATup Th [.i .u64, .i .i64]) (r : (List UInt8)) (h : f76 (y.1) (y.2.1) = some r) : PCall Try.prog C 76 (encAs G [.i .u64, .i .i64] y) (· = (fun (r : (List UInt8)) => (((.s (r))) : SV Th)) r) := one_sound gok.ok koActG1_57 tabKnows k76 (by kernel_rfl) (by kernel_rfl) (E76 y) (Cm.den_opt h rfl)
noncomputable def knActG1_76 : KnownF Th := (76, knG G [.i .u64, .i .i64] fun y => .get (f76 (y.1) (y.2.1)) fun r => .ret ((fun (r : (List UInt8)) => (((.s (r))) : SV Th)) r)) :: knActG1_57
theorem koActG1_76 : KnownOk Try.prog C knActG1_76 := KnownOk.add gok koActG1_57 (known_opt (enc := fun (r : (List UInt8)) => (((.s (r))) : SV Th)) Q76 (fun _ => rfl))
-- 77 drover/frame.part
noncomputable def u77 (a0 : Packet) (a1 : frame_sums) : Cm ((List UInt8)) :=
  (.get (f76 (IntKind.u64.wrap a0.Sport) 2) fun (y0 : List UInt8) => (.get (f76 (IntKind.u64.wrap a0.Dport) 2) fun (y1 : List UInt8) => (.chk (y0.length + y1.length ≤ (9223372036854775807 : Nat)) (.ite (decide (a0.Proto = 17)) (.get (f76 (IntKind.u64.wrap (IntKind.i64.wrap ((8 : Int) + (↑a0.Data.length : Int)))) (2 : Int)) fun (y2 : List UInt8) => (.chk ((y0 ++ y1).length + y2.length ≤ (9223372036854775807 : Nat)) (.get (f76 (IntKind.u64.wrap a1.part) 2) fun (y3 : List UInt8) => (.chk ((y0 ++ y1 ++ y2).length + y3.length ≤ (9223372036854775807 : Nat)) (.chk ((y0 ++ y1 ++ y2 ++ y3).length + a0.Data.length ≤ (9223372036854775807 : Nat)) (.ret (y0 ++ y1 ++ y2 ++ y3 ++ a0.Data)))))))
  (.ite (decide (a0.Proto = 6)) (.chk ((y0 ++ y1).length + [(0 : UInt8), (0 : UInt8), (0 : UInt8), (0 : UInt8), (0 : UInt8), (0 : UInt8), (0 : UInt8), (0 : UInt8), (80 : UInt8), (16 : UInt8), (255 : UInt8), (255 : UInt8)].length ≤ (9223372036854775807 : Nat)) (.get (f76 (IntKind.u64.wrap a1.part) 2) fun (y4 : List UInt8) => (.chk ((y0 ++ y1 ++ [(0 : UInt8), (0 : UInt8), (0 : UInt8), (0 : UInt8), (0 : UInt8), (0 : UInt8), (0 : UInt8), (0 : UInt8), (80 : UInt8), (16 : UInt8), (255 : UInt8), (255 : UInt8)]).length + y4.length ≤ (9223372036854775807 : Nat)) (.chk ((y0 ++ y1 ++ [(0 : UInt8), (0 : UInt8), (0 : UInt8), (0 : UInt8), (0 : UInt8), (0 : UInt8), (0 : UInt8), (0 : UInt8), (80 : UInt8), (16 : UInt8), (255 : UInt8), (255 : UInt8)] ++ y4).length + [(0 : UInt8), (0 : UInt8)].length ≤ (9223372036854775807 : Nat)) (.chk ((y0 ++ y1 ++ [(0 : UInt8), (0 : UInt8), (0 : UInt8), (0 : UInt8), (0 : UInt8), (0 : UInt8), (0 : UInt8), (0 : UInt8), (80 : UInt8), (16 : UInt8), (255 : UInt8), (255 : UInt8)] ++ y4 ++ [(0 : UInt8), (0 : UInt8)]).length + a0.Data.length ≤ (9223372036854775807 : Nat)) (.ret (y0 ++ y1 ++ [(0 : UInt8), (0 : UInt8), (0 : UInt8), (0 : UInt8), (0 : UInt8), (0 : UInt8), (0 : UInt8), (0 : UInt8), (80 : UInt8), (16 : UInt8), (255 : UInt8), (255 : UInt8)] ++ y4 ++ [(0 : UInt8), (0 : UInt8)] ++ a0.Data)))))))
  (.ret (a0.Data)))))))
noncomputable def f77 (a0 : Packet) (a1 : frame_sums) : Option ((List UInt8)) := (u77 (a0) (a1)).opt
theorem E77 (y : ATup Th [.t 39, .t 88]) : startC C tab knActG1_76 i77 [] .s 5000 (encAs G [.t 39, .t 88] y) = (u77 (y.1) (y.2.1)).map (fun r => .inr ((fun (r : (List UInt8)) => (((.s (r))) : SV Th)) r)) := by kernel_rfl
theorem Q77 (y : ATup Th [.t 39, .t 88]) (r : (List UInt8)) (h : f77 (y.1) (y.2.1) = some r) : PCall Try.prog C 77 (encAs G [.t 39, .t 88] y) (· = (fun (r : (List UInt8)) => (((.s (r))) : SV Th)) r) := one_sound gok.ok koActG1_76 tabKnows k77 (by kernel_rfl) (by kernel_rfl) (E77 y) (Cm.den_opt h rfl)
noncomputable def knActG1_77 : KnownF Th := (77, knG G [.t 39, .t 88] fun y => .get (f77 (y.1) (y.2.1)) fun r => .ret ((fun (r : (List UInt8)) => (((.s (r))) : SV Th)) r)) :: knActG1_76
theorem koActG1_77 : KnownOk Try.prog C knActG1_77 := KnownOk.add gok koActG1_76 (known_opt (enc := fun (r : (List UInt8)) => (((.s (r))) : SV Th)) Q77 (fun _ => rfl))
-- 78 drover/frame.head
noncomputable def u78 (a0 : Packet) (a1 : Int) (a2 : frame_sums) : Cm ((List UInt8)) :=
  (.get (f76 (IntKind.u64.wrap (IntKind.i64.wrap (20 + a1))) 2) fun (y0 : List UInt8) => (.chk ([(69 : UInt8), (0 : UInt8)].length + y0.length ≤ (9223372036854775807 : Nat)) (.chk (([(69 : UInt8), (0 : UInt8)] ++ y0).length + [(0 : UInt8), (0 : UInt8), (0 : UInt8), (0 : UInt8)].length ≤ (9223372036854775807 : Nat)) (.get (f76 (IntKind.u64.wrap a0.Life) 1) fun (y1 : List UInt8) => (.chk (([(69 : UInt8), (0 : UInt8)] ++ y0 ++ [(0 : UInt8), (0 : UInt8), (0 : UInt8), (0 : UInt8)]).length + y1.length ≤ (9223372036854775807 : Nat)) (.get (f76 (IntKind.u64.wrap a0.Proto) 1) fun (y2 : List UInt8) => (.chk (([(69 : UInt8), (0 : UInt8)] ++ y0 ++ [(0 : UInt8), (0 : UInt8), (0 : UInt8), (0 : UInt8)] ++ y1).length + y2.length ≤ (9223372036854775807 : Nat)) (.get (f76 (IntKind.u64.wrap a2.head) 2) fun (y3 : List UInt8) => (.chk (([(69 : UInt8), (0 : UInt8)] ++ y0 ++ [(0 : UInt8), (0 : UInt8), (0 : UInt8), (0 : UInt8)] ++ y1 ++ y2).length + y3.length ≤ (9223372036854775807 : Nat)) (.get (f76 (IntKind.u64.wrap a0.Src) 4) fun (y4 : List UInt8) => (.chk (([(69 : UInt8), (0 : UInt8)] ++ y0 ++ [(0 : UInt8), (0 : UInt8), (0 : UInt8), (0 : UInt8)] ++ y1 ++ y2 ++ y3).length + y4.length ≤ (9223372036854775807 : Nat)) (.get (f76 (IntKind.u64.wrap a0.Dst) 4) fun (y5 : List UInt8) => (.chk (([(69 : UInt8), (0 : UInt8)] ++ y0 ++ [(0 : UInt8), (0 : UInt8), (0 : UInt8), (0 : UInt8)] ++ y1 ++ y2 ++ y3 ++ y4).length + y5.length ≤ (9223372036854775807 : Nat)) (.ret ([(69 : UInt8), (0 : UInt8)] ++ y0 ++ [(0 : UInt8), (0 : UInt8), (0 : UInt8), (0 : UInt8)] ++ y1 ++ y2 ++ y3 ++ y4 ++ y5)))))))))))))))
noncomputable def f78 (a0 : Packet) (a1 : Int) (a2 : frame_sums) : Option ((List UInt8)) := (u78 (a0) (a1) (a2)).opt
theorem E78 (y : ATup Th [.t 39, .i .i64, .t 88]) : startC C tab knActG1_77 i78 [] .s 5000 (encAs G [.t 39, .i .i64, .t 88] y) = (u78 (y.1) (y.2.1) (y.2.2.1)).map (fun r => .inr ((fun (r : (List UInt8)) => (((.s (r))) : SV Th)) r)) := by kernel_rfl
theorem Q78 (y : ATup Th [.t 39, .i .i64, .t 88]) (r : (List UInt8)) (h : f78 (y.1) (y.2.1) (y.2.2.1) = some r) : PCall Try.prog C 78 (encAs G [.t 39, .i .i64, .t 88] y) (· = (fun (r : (List UInt8)) => (((.s (r))) : SV Th)) r) := one_sound gok.ok koActG1_77 tabKnows k78 (by kernel_rfl) (by kernel_rfl) (E78 y) (Cm.den_opt h rfl)
noncomputable def knActG1_78 : KnownF Th := (78, knG G [.t 39, .i .i64, .t 88] fun y => .get (f78 (y.1) (y.2.1) (y.2.2.1)) fun r => .ret ((fun (r : (List UInt8)) => (((.s (r))) : SV Th)) r)) :: knActG1_77
theorem koActG1_78 : KnownOk Try.prog C knActG1_78 := KnownOk.add gok koActG1_77 (known_opt (enc := fun (r : (List UInt8)) => (((.s (r))) : SV Th)) Q78 (fun _ => rfl))
-- 53 drover/frame.laid
noncomputable def u53 (a0 : Packet) (a1 : frame_sums) : Cm ((List UInt8)) :=
  (.get (f76 a0.To 6) fun (y0 : List UInt8) => (.get (f76 a0.From 6) fun (y1 : List UInt8) => (.chk (y0.length + y1.length ≤ (9223372036854775807 : Nat)) (.chk ((0 : Nat) = (0 : Nat) ∧ ((0 : Nat) + (List.filterMap (fun (b : UInt8) => Option.some (↑b.toNat : Int)) (y0 ++ y1)).length) * (1 : Nat) ≤ nat_lit 140737488355328 ∧ (0 : Nat) + (List.filterMap (fun (b : UInt8) => Option.some (↑b.toNat : Int)) (y0 ++ y1)).length ≤ nat_lit 140737488355328) (.ite (!decide (a0.Vlan = 0)) (.get (f76 33024 2) fun (y2 : List UInt8) => (.get (f76 (IntKind.u64.wrap (IntKind.i64.wrap (↑(BitVec.ofInt 64 a0.Vlan &&& BitVec.ofInt 64 4095).toNat : Int))) 2) fun (y3 : List UInt8) => (.chk (y2.length + y3.length ≤ (9223372036854775807 : Nat)) (.chk (([] ++ List.filterMap (fun (b : UInt8) => Option.some (↑b.toNat : Int)) (y0 ++ y1)).length = ([] ++ List.filterMap (fun (b : UInt8) => Option.some (↑b.toNat : Int)) (y0 ++ y1)).length ∧ (([] ++ List.filterMap (fun (b : UInt8) => Option.some (↑b.toNat : Int)) (y0 ++ y1)).length + (List.filterMap (fun (b : UInt8) => Option.some (↑b.toNat : Int)) (y2 ++ y3)).length) * (1 : Nat) ≤ nat_lit 140737488355328 ∧ ([] ++ List.filterMap (fun (b : UInt8) => Option.some (↑b.toNat : Int)) (y0 ++ y1)).length + (List.filterMap (fun (b : UInt8) => Option.some (↑b.toNat : Int)) (y2 ++ y3)).length ≤ nat_lit 140737488355328) (.get (f76 (IntKind.u64.wrap a0.Type_) 2) fun (y4 : List UInt8) => (.chk (([] ++ List.filterMap (fun (b : UInt8) => Option.some (↑b.toNat : Int)) (y0 ++ y1) ++ List.filterMap (fun (b : UInt8) => Option.some (↑b.toNat : Int)) (y2 ++ y3)).length = ([] ++ List.filterMap (fun (b : UInt8) => Option.some (↑b.toNat : Int)) (y0 ++ y1) ++ List.filterMap (fun (b : UInt8) => Option.some (↑b.toNat : Int)) (y2 ++ y3)).length ∧ (([] ++ List.filterMap (fun (b : UInt8) => Option.some (↑b.toNat : Int)) (y0 ++ y1) ++ List.filterMap (fun (b : UInt8) => Option.some (↑b.toNat : Int)) (y2 ++ y3)).length + (List.filterMap (fun (b : UInt8) => Option.some (↑b.toNat : Int)) y4).length) * (1 : Nat) ≤ nat_lit 140737488355328 ∧ ([] ++ List.filterMap (fun (b : UInt8) => Option.some (↑b.toNat : Int)) (y0 ++ y1) ++ List.filterMap (fun (b : UInt8) => Option.some (↑b.toNat : Int)) (y2 ++ y3)).length + (List.filterMap (fun (b : UInt8) => Option.some (↑b.toNat : Int)) y4).length ≤ nat_lit 140737488355328) (.ite (!decide (a0.Type_ = 2048)) (.chk (([] ++ List.filterMap (fun (b : UInt8) => Option.some (↑b.toNat : Int)) (y0 ++ y1) ++ List.filterMap (fun (b : UInt8) => Option.some (↑b.toNat : Int)) (y2 ++ y3) ++ List.filterMap (fun (b : UInt8) => Option.some (↑b.toNat : Int)) y4).length = ([] ++ List.filterMap (fun (b : UInt8) => Option.some (↑b.toNat : Int)) (y0 ++ y1) ++ List.filterMap (fun (b : UInt8) => Option.some (↑b.toNat : Int)) (y2 ++ y3) ++ List.filterMap (fun (b : UInt8) => Option.some (↑b.toNat : Int)) y4).length ∧ (([] ++ List.filterMap (fun (b : UInt8) => Option.some (↑b.toNat : Int)) (y0 ++ y1) ++ List.filterMap (fun (b : UInt8) => Option.some (↑b.toNat : Int)) (y2 ++ y3) ++ List.filterMap (fun (b : UInt8) => Option.some (↑b.toNat : Int)) y4).length + (List.filterMap (fun (b : UInt8) => Option.some (↑b.toNat : Int)) a0.Data).length) * (1 : Nat) ≤ nat_lit 140737488355328 ∧ ([] ++ List.filterMap (fun (b : UInt8) => Option.some (↑b.toNat : Int)) (y0 ++ y1) ++ List.filterMap (fun (b : UInt8) => Option.some (↑b.toNat : Int)) (y2 ++ y3) ++ List.filterMap (fun (b : UInt8) => Option.some (↑b.toNat : Int)) y4).length + (List.filterMap (fun (b : UInt8) => Option.some (↑b.toNat : Int)) a0.Data).length ≤ nat_lit 140737488355328) (.chk (([] ++ List.filterMap (fun (b : UInt8) => Option.some (↑b.toNat : Int)) (y0 ++ y1) ++ List.filterMap (fun (b : UInt8) => Option.some (↑b.toNat : Int)) (y2 ++ y3) ++ List.filterMap (fun (b : UInt8) => Option.some (↑b.toNat : Int)) y4 ++ List.filterMap (fun (b : UInt8) => Option.some (↑b.toNat : Int)) a0.Data).length = ([] ++ List.filterMap (fun (b : UInt8) => Option.some (↑b.toNat : Int)) (y0 ++ y1) ++ List.filterMap (fun (b : UInt8) => Option.some (↑b.toNat : Int)) (y2 ++ y3) ++ List.filterMap (fun (b : UInt8) => Option.some (↑b.toNat : Int)) y4 ++ List.filterMap (fun (b : UInt8) => Option.some (↑b.toNat : Int)) a0.Data).length) (.chk ((↑([] ++ List.filterMap (fun (b : UInt8) => Option.some (↑b.toNat : Int)) (y0 ++ y1) ++ List.filterMap (fun (b : UInt8) => Option.some (↑b.toNat : Int)) (y2 ++ y3) ++ List.filterMap (fun (b : UInt8) => Option.some (↑b.toNat : Int)) y4 ++ List.filterMap (fun (b : UInt8) => Option.some (↑b.toNat : Int)) a0.Data).length : Int) = (↑([] ++ List.filterMap (fun (b : UInt8) => Option.some (↑b.toNat : Int)) (y0 ++ y1) ++ List.filterMap (fun (b : UInt8) => Option.some (↑b.toNat : Int)) (y2 ++ y3) ++ List.filterMap (fun (b : UInt8) => Option.some (↑b.toNat : Int)) y4 ++ List.filterMap (fun (b : UInt8) => Option.some (↑b.toNat : Int)) a0.Data).length : Int) ∧ ([] ++ List.filterMap (fun (b : UInt8) => Option.some (↑b.toNat : Int)) (y0 ++ y1) ++ List.filterMap (fun (b : UInt8) => Option.some (↑b.toNat : Int)) (y2 ++ y3) ++ List.filterMap (fun (b : UInt8) => Option.some (↑b.toNat : Int)) y4 ++ List.filterMap (fun (b : UInt8) => Option.some (↑b.toNat : Int)) a0.Data).length < (4611686018427387904 : Nat)) (.ret (List.map (fun (x : Int) => UInt8.ofNat x.toNat) ([] ++ List.filterMap (fun (b : UInt8) => Option.some (↑b.toNat : Int)) (y0 ++ y1) ++ List.filterMap (fun (b : UInt8) => Option.some (↑b.toNat : Int)) (y2 ++ y3) ++ List.filterMap (fun (b : UInt8) => Option.some (↑b.toNat : Int)) y4 ++ List.filterMap (fun (b : UInt8) => Option.some (↑b.toNat : Int)) a0.Data))))))
  (.get (f77 a0 a1) fun (y5 : List UInt8) => (.get (f78 a0 (↑y5.length : Int) a1) fun (y6 : List UInt8) => (.chk (y6.length + y5.length ≤ (9223372036854775807 : Nat)) (.chk (([] ++ List.filterMap (fun (b : UInt8) => Option.some (↑b.toNat : Int)) (y0 ++ y1) ++ List.filterMap (fun (b : UInt8) => Option.some (↑b.toNat : Int)) (y2 ++ y3) ++ List.filterMap (fun (b : UInt8) => Option.some (↑b.toNat : Int)) y4).length = ([] ++ List.filterMap (fun (b : UInt8) => Option.some (↑b.toNat : Int)) (y0 ++ y1) ++ List.filterMap (fun (b : UInt8) => Option.some (↑b.toNat : Int)) (y2 ++ y3) ++ List.filterMap (fun (b : UInt8) => Option.some (↑b.toNat : Int)) y4).length ∧ (([] ++ List.filterMap (fun (b : UInt8) => Option.some (↑b.toNat : Int)) (y0 ++ y1) ++ List.filterMap (fun (b : UInt8) => Option.some (↑b.toNat : Int)) (y2 ++ y3) ++ List.filterMap (fun (b : UInt8) => Option.some (↑b.toNat : Int)) y4).length + (List.filterMap (fun (b : UInt8) => Option.some (↑b.toNat : Int)) (y6 ++ y5)).length) * (1 : Nat) ≤ nat_lit 140737488355328 ∧ ([] ++ List.filterMap (fun (b : UInt8) => Option.some (↑b.toNat : Int)) (y0 ++ y1) ++ List.filterMap (fun (b : UInt8) => Option.some (↑b.toNat : Int)) (y2 ++ y3) ++ List.filterMap (fun (b : UInt8) => Option.some (↑b.toNat : Int)) y4).length + (List.filterMap (fun (b : UInt8) => Option.some (↑b.toNat : Int)) (y6 ++ y5)).length ≤ nat_lit 140737488355328) (.chk (([] ++ List.filterMap (fun (b : UInt8) => Option.some (↑b.toNat : Int)) (y0 ++ y1) ++ List.filterMap (fun (b : UInt8) => Option.some (↑b.toNat : Int)) (y2 ++ y3) ++ List.filterMap (fun (b : UInt8) => Option.some (↑b.toNat : Int)) y4 ++ List.filterMap (fun (b : UInt8) => Option.some (↑b.toNat : Int)) (y6 ++ y5)).length = ([] ++ List.filterMap (fun (b : UInt8) => Option.some (↑b.toNat : Int)) (y0 ++ y1) ++ List.filterMap (fun (b : UInt8) => Option.some (↑b.toNat : Int)) (y2 ++ y3) ++ List.filterMap (fun (b : UInt8) => Option.some (↑b.toNat : Int)) y4 ++ List.filterMap (fun (b : UInt8) => Option.some (↑b.toNat : Int)) (y6 ++ y5)).length) (.chk ((↑([] ++ List.filterMap (fun (b : UInt8) => Option.some (↑b.toNat : Int)) (y0 ++ y1) ++ List.filterMap (fun (b : UInt8) => Option.some (↑b.toNat : Int)) (y2 ++ y3) ++ List.filterMap (fun (b : UInt8) => Option.some (↑b.toNat : Int)) y4 ++ List.filterMap (fun (b : UInt8) => Option.some (↑b.toNat : Int)) (y6 ++ y5)).length : Int) = (↑([] ++ List.filterMap (fun (b : UInt8) => Option.some (↑b.toNat : Int)) (y0 ++ y1) ++ List.filterMap (fun (b : UInt8) => Option.some (↑b.toNat : Int)) (y2 ++ y3) ++ List.filterMap (fun (b : UInt8) => Option.some (↑b.toNat : Int)) y4 ++ List.filterMap (fun (b : UInt8) => Option.some (↑b.toNat : Int)) (y6 ++ y5)).length : Int) ∧ ([] ++ List.filterMap (fun (b : UInt8) => Option.some (↑b.toNat : Int)) (y0 ++ y1) ++ List.filterMap (fun (b : UInt8) => Option.some (↑b.toNat : Int)) (y2 ++ y3) ++ List.filterMap (fun (b : UInt8) => Option.some (↑b.toNat : Int)) y4 ++ List.filterMap (fun (b : UInt8) => Option.some (↑b.toNat : Int)) (y6 ++ y5)).length < (4611686018427387904 : Nat)) (.ret (List.map (fun (x : Int) => UInt8.ofNat x.toNat) ([] ++ List.filterMap (fun (b : UInt8) => Option.some (↑b.toNat : Int)) (y0 ++ y1) ++ List.filterMap (fun (b : UInt8) => Option.some (↑b.toNat : Int)) (y2 ++ y3) ++ List.filterMap (fun (b : UInt8) => Option.some (↑b.toNat : Int)) y4 ++ List.filterMap (fun (b : UInt8) => Option.some (↑b.toNat : Int)) (y6 ++ y5)))))))))))))))))
  (.get (f76 (IntKind.u64.wrap a0.Type_) 2) fun (y7 : List UInt8) => (.chk (([] ++ List.filterMap (fun (b : UInt8) => Option.some (↑b.toNat : Int)) (y0 ++ y1)).length = ([] ++ List.filterMap (fun (b : UInt8) => Option.some (↑b.toNat : Int)) (y0 ++ y1)).length ∧ (([] ++ List.filterMap (fun (b : UInt8) => Option.some (↑b.toNat : Int)) (y0 ++ y1)).length + (List.filterMap (fun (b : UInt8) => Option.some (↑b.toNat : Int)) y7).length) * (1 : Nat) ≤ nat_lit 140737488355328 ∧ ([] ++ List.filterMap (fun (b : UInt8) => Option.some (↑b.toNat : Int)) (y0 ++ y1)).length + (List.filterMap (fun (b : UInt8) => Option.some (↑b.toNat : Int)) y7).length ≤ nat_lit 140737488355328) (.ite (!decide (a0.Type_ = 2048)) (.chk (([] ++ List.filterMap (fun (b : UInt8) => Option.some (↑b.toNat : Int)) (y0 ++ y1) ++ List.filterMap (fun (b : UInt8) => Option.some (↑b.toNat : Int)) y7).length = ([] ++ List.filterMap (fun (b : UInt8) => Option.some (↑b.toNat : Int)) (y0 ++ y1) ++ List.filterMap (fun (b : UInt8) => Option.some (↑b.toNat : Int)) y7).length ∧ (([] ++ List.filterMap (fun (b : UInt8) => Option.some (↑b.toNat : Int)) (y0 ++ y1) ++ List.filterMap (fun (b : UInt8) => Option.some (↑b.toNat : Int)) y7).length + (List.filterMap (fun (b : UInt8) => Option.some (↑b.toNat : Int)) a0.Data).length) * (1 : Nat) ≤ nat_lit 140737488355328 ∧ ([] ++ List.filterMap (fun (b : UInt8) => Option.some (↑b.toNat : Int)) (y0 ++ y1) ++ List.filterMap (fun (b : UInt8) => Option.some (↑b.toNat : Int)) y7).length + (List.filterMap (fun (b : UInt8) => Option.some (↑b.toNat : Int)) a0.Data).length ≤ nat_lit 140737488355328) (.chk (([] ++ List.filterMap (fun (b : UInt8) => Option.some (↑b.toNat : Int)) (y0 ++ y1) ++ List.filterMap (fun (b : UInt8) => Option.some (↑b.toNat : Int)) y7 ++ List.filterMap (fun (b : UInt8) => Option.some (↑b.toNat : Int)) a0.Data).length = ([] ++ List.filterMap (fun (b : UInt8) => Option.some (↑b.toNat : Int)) (y0 ++ y1) ++ List.filterMap (fun (b : UInt8) => Option.some (↑b.toNat : Int)) y7 ++ List.filterMap (fun (b : UInt8) => Option.some (↑b.toNat : Int)) a0.Data).length) (.chk ((↑([] ++ List.filterMap (fun (b : UInt8) => Option.some (↑b.toNat : Int)) (y0 ++ y1) ++ List.filterMap (fun (b : UInt8) => Option.some (↑b.toNat : Int)) y7 ++ List.filterMap (fun (b : UInt8) => Option.some (↑b.toNat : Int)) a0.Data).length : Int) = (↑([] ++ List.filterMap (fun (b : UInt8) => Option.some (↑b.toNat : Int)) (y0 ++ y1) ++ List.filterMap (fun (b : UInt8) => Option.some (↑b.toNat : Int)) y7 ++ List.filterMap (fun (b : UInt8) => Option.some (↑b.toNat : Int)) a0.Data).length : Int) ∧ ([] ++ List.filterMap (fun (b : UInt8) => Option.some (↑b.toNat : Int)) (y0 ++ y1) ++ List.filterMap (fun (b : UInt8) => Option.some (↑b.toNat : Int)) y7 ++ List.filterMap (fun (b : UInt8) => Option.some (↑b.toNat : Int)) a0.Data).length < (4611686018427387904 : Nat)) (.ret (List.map (fun (x : Int) => UInt8.ofNat x.toNat) ([] ++ List.filterMap (fun (b : UInt8) => Option.some (↑b.toNat : Int)) (y0 ++ y1) ++ List.filterMap (fun (b : UInt8) => Option.some (↑b.toNat : Int)) y7 ++ List.filterMap (fun (b : UInt8) => Option.some (↑b.toNat : Int)) a0.Data))))))
  (.get (f77 a0 a1) fun (y8 : List UInt8) => (.get (f78 a0 (↑y8.length : Int) a1) fun (y9 : List UInt8) => (.chk (y9.length + y8.length ≤ (9223372036854775807 : Nat)) (.chk (([] ++ List.filterMap (fun (b : UInt8) => Option.some (↑b.toNat : Int)) (y0 ++ y1) ++ List.filterMap (fun (b : UInt8) => Option.some (↑b.toNat : Int)) y7).length = ([] ++ List.filterMap (fun (b : UInt8) => Option.some (↑b.toNat : Int)) (y0 ++ y1) ++ List.filterMap (fun (b : UInt8) => Option.some (↑b.toNat : Int)) y7).length ∧ (([] ++ List.filterMap (fun (b : UInt8) => Option.some (↑b.toNat : Int)) (y0 ++ y1) ++ List.filterMap (fun (b : UInt8) => Option.some (↑b.toNat : Int)) y7).length + (List.filterMap (fun (b : UInt8) => Option.some (↑b.toNat : Int)) (y9 ++ y8)).length) * (1 : Nat) ≤ nat_lit 140737488355328 ∧ ([] ++ List.filterMap (fun (b : UInt8) => Option.some (↑b.toNat : Int)) (y0 ++ y1) ++ List.filterMap (fun (b : UInt8) => Option.some (↑b.toNat : Int)) y7).length + (List.filterMap (fun (b : UInt8) => Option.some (↑b.toNat : Int)) (y9 ++ y8)).length ≤ nat_lit 140737488355328) (.chk (([] ++ List.filterMap (fun (b : UInt8) => Option.some (↑b.toNat : Int)) (y0 ++ y1) ++ List.filterMap (fun (b : UInt8) => Option.some (↑b.toNat : Int)) y7 ++ List.filterMap (fun (b : UInt8) => Option.some (↑b.toNat : Int)) (y9 ++ y8)).length = ([] ++ List.filterMap (fun (b : UInt8) => Option.some (↑b.toNat : Int)) (y0 ++ y1) ++ List.filterMap (fun (b : UInt8) => Option.some (↑b.toNat : Int)) y7 ++ List.filterMap (fun (b : UInt8) => Option.some (↑b.toNat : Int)) (y9 ++ y8)).length) (.chk ((↑([] ++ List.filterMap (fun (b : UInt8) => Option.some (↑b.toNat : Int)) (y0 ++ y1) ++ List.filterMap (fun (b : UInt8) => Option.some (↑b.toNat : Int)) y7 ++ List.filterMap (fun (b : UInt8) => Option.some (↑b.toNat : Int)) (y9 ++ y8)).length : Int) = (↑([] ++ List.filterMap (fun (b : UInt8) => Option.some (↑b.toNat : Int)) (y0 ++ y1) ++ List.filterMap (fun (b : UInt8) => Option.some (↑b.toNat : Int)) y7 ++ List.filterMap (fun (b : UInt8) => Option.some (↑b.toNat : Int)) (y9 ++ y8)).length : Int) ∧ ([] ++ List.filterMap (fun (b : UInt8) => Option.some (↑b.toNat : Int)) (y0 ++ y1) ++ List.filterMap (fun (b : UInt8) => Option.some (↑b.toNat : Int)) y7 ++ List.filterMap (fun (b : UInt8) => Option.some (↑b.toNat : Int)) (y9 ++ y8)).length < (4611686018427387904 : Nat)) (.ret (List.map (fun (x : Int) => UInt8.ofNat x.toNat) ([] ++ List.filterMap (fun (b : UInt8) => Option.some (↑b.toNat : Int)) (y0 ++ y1) ++ List.filterMap (fun (b : UInt8) => Option.some (↑b.toNat : Int)) y7 ++ List.filterMap (fun (b : UInt8) => Option.some (↑b.toNat : Int)) (y9 ++ y8))))))))))))))))))
noncomputable def f53 (a0 : Packet) (a1 : frame_sums) : Option ((List UInt8)) := (u53 (a0) (a1)).opt
theorem E53 (y : ATup Th [.t 39, .t 88]) : startC C tab knActG1_78 i53 [] .s 5000 (encAs G [.t 39, .t 88] y) = (u53 (y.1) (y.2.1)).map (fun r => .inr ((fun (r : (List UInt8)) => (((.s (r))) : SV Th)) r)) := by kernel_rfl
theorem Q53 (y : ATup Th [.t 39, .t 88]) (r : (List UInt8)) (h : f53 (y.1) (y.2.1) = some r) : PCall Try.prog C 53 (encAs G [.t 39, .t 88] y) (· = (fun (r : (List UInt8)) => (((.s (r))) : SV Th)) r) := one_sound gok.ok koActG1_78 tabKnows k53 (by kernel_rfl) (by kernel_rfl) (E53 y) (Cm.den_opt h rfl)
noncomputable def knActG1_53 : KnownF Th := (53, knG G [.t 39, .t 88] fun y => .get (f53 (y.1) (y.2.1)) fun r => .ret ((fun (r : (List UInt8)) => (((.s (r))) : SV Th)) r)) :: knActG1_78
theorem koActG1_53 : KnownOk Try.prog C knActG1_53 := KnownOk.add gok koActG1_78 (known_opt (enc := fun (r : (List UInt8)) => (((.s (r))) : SV Th)) Q53 (fun _ => rfl))
-- 88 cmp.isNaN[int]
noncomputable def u88 (a0 : Int) : Cm (Bool) :=
  (.ret (!decide (a0 = a0)))
noncomputable def f88 (a0 : Int) : Bool := (u88 (a0)).tot default
theorem E88 (y : ATup Th [.i .i64]) : startC C tab knActG1_53 i88 [] .b 5000 (encAs G [.i .i64] y) = (u88 (y.1)).map (fun r => .inr ((fun (r : Bool) => (((.b (r))) : SV Th)) r)) := by kernel_rfl
theorem Q88 (y : ATup Th [.i .i64]) : PCall Try.prog C 88 (encAs G [.i .i64] y) (· = (fun (r : Bool) => (((.b (r))) : SV Th)) (f88 (y.1))) := one_sound gok.ok koActG1_53 tabKnows k88 (by kernel_rfl) (by kernel_rfl) (E88 y) (Cm.den_tot default (by kernel_rfl) rfl)
noncomputable def knActG1_88 : KnownF Th := (88, knG G [.i .i64] fun y => .ret ((fun (r : Bool) => (((.b (r))) : SV Th)) (f88 (y.1)))) :: knActG1_53
theorem koActG1_88 : KnownOk Try.prog C knActG1_88 := KnownOk.add gok koActG1_53 (known_tot (enc := fun (r : Bool) => (((.b (r))) : SV Th)) Q88 (fun _ => rfl))
-- 65 cmp.Compare[int]
noncomputable def u65 (a0 : Int) (a1 : Int) : Cm (Int) :=
  (.ite (f88 a0) (.ite (f88 a1) (.ret (0))
  (.ret (-1)))
  (.ite (f88 a1) (.ret (1))
  (.ite (decide (a0 < a1)) (.ret (-1))
  (.ite (decide (a1 < a0)) (.ret (1))
  (.ret (0))))))
noncomputable def f65 (a0 : Int) (a1 : Int) : Int := (u65 (a0) (a1)).tot default
theorem E65 (y : ATup Th [.i .i64, .i .i64]) : startC C tab knActG1_88 i65 [] (.i .i64) 5000 (encAs G [.i .i64, .i .i64] y) = (u65 (y.1) (y.2.1)).map (fun r => .inr ((fun (r : Int) => (((.i .i64 (r))) : SV Th)) r)) := by kernel_rfl
theorem Q65 (y : ATup Th [.i .i64, .i .i64]) : PCall Try.prog C 65 (encAs G [.i .i64, .i .i64] y) (· = (fun (r : Int) => (((.i .i64 (r))) : SV Th)) (f65 (y.1) (y.2.1))) := one_sound gok.ok koActG1_88 tabKnows k65 (by kernel_rfl) (by kernel_rfl) (E65 y) (Cm.den_tot default (by kernel_rfl) rfl)
noncomputable def knActG1_65 : KnownF Th := (65, knG G [.i .i64, .i .i64] fun y => .ret ((fun (r : Int) => (((.i .i64 (r))) : SV Th)) (f65 (y.1) (y.2.1)))) :: knActG1_88
theorem koActG1_65 : KnownOk Try.prog C knActG1_65 := KnownOk.add gok koActG1_88 (known_tot (enc := fun (r : Int) => (((.i .i64 (r))) : SV Th)) Q65 (fun _ => rfl))
-- 39 drover/act.rank
noncomputable def u39 (a0 : Action) (a1 : Action) : Cm (Int) :=
  (.get (f37 a0) fun (y0 : Int) => (.get (f37 a1) fun (y1 : Int) => (.ite (!decide (f65 y0 y1 = (0 : Int))) (.ret (f65 y0 y1))
  (.ite (!decide (a0.Kind = 5)) (.ret (f65 y0 y1))
  (.ret (f65 a0.Field a1.Field))))))
noncomputable def f39 (a0 : Action) (a1 : Action) : Option (Int) := (u39 (a0) (a1)).opt
theorem E39 (y : ATup Th [.t 31, .t 31]) : startC C tab knActG1_65 i39 [] (.i .i64) 5000 (encAs G [.t 31, .t 31] y) = (u39 (y.1) (y.2.1)).map (fun r => .inr ((fun (r : Int) => (((.i .i64 (r))) : SV Th)) r)) := by kernel_rfl
theorem Q39 (y : ATup Th [.t 31, .t 31]) (r : Int) (h : f39 (y.1) (y.2.1) = some r) : PCall Try.prog C 39 (encAs G [.t 31, .t 31] y) (· = (fun (r : Int) => (((.i .i64 (r))) : SV Th)) r) := one_sound gok.ok koActG1_65 tabKnows k39 (by kernel_rfl) (by kernel_rfl) (E39 y) (Cm.den_opt h rfl)
noncomputable def knActG1_39 : KnownF Th := (39, knG G [.t 31, .t 31] fun y => .get (f39 (y.1) (y.2.1)) fun r => .ret ((fun (r : Int) => (((.i .i64 (r))) : SV Th)) r)) :: knActG1_65
theorem koActG1_39 : KnownOk Try.prog C knActG1_39 := KnownOk.add gok koActG1_65 (known_opt (enc := fun (r : Int) => (((.i .i64 (r))) : SV Th)) Q39 (fun _ => rfl))
-- 49 drover/act.seems
def H49 : List (List Nat × Hint) := [([30021, 1000011], ⟨[19, 5, 17, 18], [[2, 3]], [], [], [], [17], [], 0⟩),
  ([30021, 1000013], ⟨[19, 5, 17, 18], [[2, 3, 4]], [], [], [], [17], [], 0⟩),
  ([30021, 1000018], ⟨[19, 5, 17, 18], [[2]], [], [], [], [17], [], 0⟩),
  ([30021, 1000023], ⟨[19, 5, 17, 18], [[2]], [], [], [], [17], [], 0⟩),
  ([30021, 1000034], ⟨[19, 5, 17, 18], [[2, 3]], [], [], [], [17], [], 0⟩),
  ([30021, 1000036], ⟨[19, 5, 17, 18], [[2, 3]], [], [], [], [17], [], 0⟩),
  ([30021, 1000039], ⟨[19, 5, 17, 18], [[2, 3, 5]], [], [], [], [17], [], 0⟩),
  ([30021, 1000049], ⟨[19, 5, 17, 18], [[2, 45]], [], [], [], [17], [], 0⟩)]
inductive L49 where
  | h0 (i0 : Int) (i2 : Int) (l3 : List Int) (l4 : List UInt8) (i6 : Int) (i7 : Int)
  | h1 (l8 : List UInt8) (i9 : Int) (i11 : Int) (l12 : List Int) (i14 : Int) (i16 : Int) (i17 : Int)
  | h2 (i19 : Int) (l20 : List Int) (i31 : Int) (i32 : Int)
  | h3 (i22 : Int) (l23 : List Int) (i34 : Int) (i35 : Int)
  | h4 (l24 : List UInt8) (i25 : Int) (i27 : Int) (l28 : List Int) (i37 : Int) (i38 : Int)
  | h5 (l39 : List UInt8) (i40 : Int) (i42 : Int) (l43 : List Int) (i49 : Int) (i50 : Int)
  | h6 (i51 : Int) (l52 : List UInt8) (i53 : Int) (i55 : Int) (l56 : List Int) (i60 : Int) (i61 : Int)
  | h7 (i62 : Int) (i64 : Int) (l65 : List Int) (i68 : Int) (i69 : Int)
noncomputable def m49 : L49 → Trip Th
  | .h0 (i0) (i2) (l3) (l4) (i6) (i7) => ([(.lp 30 c72_5), (.blk 0), (.seq 30 c72_7), (.cal [(2, (.ptr 1 0)), (3, (.ptr 2 0))] (.some 11) [(.tmp 4)]), (.ops 52 c49_1), (.seq 52 c49_20)], [(19, (.i .i64 (i6))), (5, (.i .u64 (i7))), (17, (.sl 5 0 0 (l3.length) .none)), (18, (.i .i64 (i2)))], [(.arr 5 (l3)), (.box [(.i .i64 0), (.i .i64 0), (.i .u64 0)]), (.box [(.s (l4)), (.i .i64 (i0))])])
  | .h1 (l8) (i9) (i11) (l12) (i14) (i16) (i17) => ([(.lp 30 c72_5), (.blk 0), (.seq 30 c72_7), (.cal [(2, (.ptr 1 0)), (3, (.ptr 2 0)), (4, (.i .u64 (i14)))] (.some 13) [(.tmp 4)]), (.ops 52 []), (.seq 52 c49_19)], [(19, (.i .i64 (i16))), (5, (.i .u64 (i17))), (17, (.sl 5 0 0 (l12.length) .none)), (18, (.i .i64 (i11)))], [(.arr 5 (l12)), (.box [(.i .i64 0), (.i .i64 0), (.i .u64 0)]), (.box [(.s (l8)), (.i .i64 (i9))])])
  | .h2 (i19) (l20) (i31) (i32) => ([(.lp 30 c72_5), (.blk 0), (.seq 30 c72_7), (.cal [(2, (.ptr 1 0))] (.some 18) [(.tmp 4)]), (.ops 52 c49_2), (.seq 52 Go.Ab.ACode.ret), (.blk 0), (.seq 52 c49_18)], [(19, (.i .i64 (i31))), (5, (.i .u64 (i32))), (17, (.sl 5 0 0 (l20.length) .none)), (18, (.i .i64 (i19)))], [(.arr 5 (l20)), (.box [(.i .i64 0), (.i .i64 0), (.i .u64 0)])])
  | .h3 (i22) (l23) (i34) (i35) => ([(.lp 30 c72_5), (.blk 0), (.seq 30 c72_7), (.cal [(2, (.ptr 1 0))] (.some 23) [(.tmp 4)]), (.ops 52 c49_3), (.seq 52 Go.Ab.ACode.ret), (.blk 0), (.seq 52 c49_18)], [(19, (.i .i64 (i34))), (5, (.i .u64 (i35))), (17, (.sl 5 0 0 (l23.length) .none)), (18, (.i .i64 (i22)))], [(.arr 5 (l23)), (.box [(.i .i64 0), (.i .i64 0), (.i .u64 0)])])
  | .h4 (l24) (i25) (i27) (l28) (i37) (i38) => ([(.lp 30 c72_5), (.blk 0), (.seq 30 c72_7), (.cal [(2, (.ptr 1 0)), (3, (.ptr 2 0))] (.some 34) [(.tmp 4)]), (.ops 52 []), (.seq 52 c49_11), (.blk 0), (.seq 52 c49_18)], [(19, (.i .i64 (i37))), (5, (.i .u64 (i38))), (17, (.sl 5 0 0 (l28.length) .none)), (18, (.i .i64 (i27)))], [(.arr 5 (l28)), (.box [(.i .i64 0), (.i .i64 0), (.i .u64 0)]), (.box [(.s (l24)), (.i .i64 (i25))])])
  | .h5 (l39) (i40) (i42) (l43) (i49) (i50) => ([(.lp 30 c72_5), (.blk 0), (.seq 30 c72_7), (.cal [(2, (.ptr 1 0)), (3, (.ptr 2 0))] (.some 36) [(.tmp 4)]), (.ops 52 c49_5), (.seq 52 c49_10), (.blk 0), (.seq 52 c49_18)], [(19, (.i .i64 (i49))), (5, (.i .u64 (i50))), (17, (.sl 5 0 0 (l43.length) .none)), (18, (.i .i64 (i42)))], [(.arr 5 (l43)), (.box [(.i .i64 0), (.i .i64 0), (.i .u64 0)]), (.box [(.s (l39)), (.i .i64 (i40))])])
  | .h6 (i51) (l52) (i53) (i55) (l56) (i60) (i61) => ([(.lp 30 c72_5), (.blk 0), (.seq 30 c72_7), (.cal [(2, (.ptr 1 0)), (3, (.ptr 2 0)), (5, (.i .i64 (i51)))] (.some 39) [(.tmp 4)]), (.ops 52 []), (.seq 52 c49_9), (.blk 0), (.seq 52 c49_18)], [(19, (.i .i64 (i60))), (5, (.i .u64 (i61))), (17, (.sl 5 0 0 (l56.length) .none)), (18, (.i .i64 (i55)))], [(.arr 5 (l56)), (.box [(.i .i64 0), (.i .i64 0), (.i .u64 0)]), (.box [(.s (l52)), (.i .i64 (i53))])])
  | .h7 (i62) (i64) (l65) (i68) (i69) => ([(.lp 30 c72_5), (.blk 0), (.seq 30 c72_7), (.cal [(2, (.ptr 1 0)), (45, (.i .i64 (i62)))] (.some 49) [(.tmp 4)]), (.ops 52 c49_7), (.seq 52 Go.Ab.ACode.ret), (.blk 0), (.seq 52 c49_18)], [(19, (.i .i64 (i68))), (5, (.i .u64 (i69))), (17, (.sl 5 0 0 (l65.length) .none)), (18, (.i .i64 (i64)))], [(.arr 5 (l65)), (.box [(.i .i64 0), (.i .i64 0), (.i .u64 0)])])
noncomputable def g49 : L49 → Cm (L49 ⊕ Action)
  | .h0 (i0) (i2) (l3) (l4) (i6) (i7) => (.ite (decide (i6 < i2)) (.chk ((0 : Int) ≤ i6 ∧ i6 < (↑l3.length : Int)) (.get (l3[(0 : Nat) + i6.toNat]?) fun (y13 : Int) => (.chk ((0 : Int) ≤ (8 : Int)) (.chk (l3.length = l3.length) (.ret (.inl (.h0 (i0) (i2) (l3) (l4) (IntKind.i64.wrap (i6 + 1)) (IntKind.u64.wrap (↑(BitVec.ofInt 64 (IntKind.u64.wrap (i7 * 2 ^ 8)) ||| BitVec.ofInt 64 (IntKind.u64.wrap y13)).toNat : Int)))))))))
  (.ite (decide ((1 : Int) ≤ (2 : Int))) (.ite (!decide (i0 = 0)) (.chk (@Eq Nat (@List.length Int (@List.filterMap UInt8 Int (fun (b : UInt8) => @Option.some Int (@Nat.cast Int instNatCastInt b.toNat)) (@List.nil UInt8))) (@List.length Int (@List.filterMap UInt8 Int (fun (b : UInt8) => @Option.some Int (@Nat.cast Int instNatCastInt b.toNat)) (@List.nil UInt8)))) (.ret (.inl (.h1 (l4) (i0) (@Nat.cast Int instNatCastInt (@List.length Int (@List.filterMap UInt8 Int (fun (b : UInt8) => @Option.some Int (@Nat.cast Int instNatCastInt b.toNat)) (@List.nil UInt8)))) (List.filterMap (fun (b : UInt8) => Option.some (↑b.toNat : Int)) []) (i7) (0) (0)))))
  (.ite (!decide ((2 : Int) ≤ (8 : Int))) (.chk (@Eq Nat (@List.length Int (@List.filterMap UInt8 Int (fun (b : UInt8) => @Option.some Int (@Nat.cast Int instNatCastInt b.toNat)) (@List.nil UInt8))) (@List.length Int (@List.filterMap UInt8 Int (fun (b : UInt8) => @Option.some Int (@Nat.cast Int instNatCastInt b.toNat)) (@List.nil UInt8)))) (.ret (.inl (.h1 (l4) (1) (@Nat.cast Int instNatCastInt (@List.length Int (@List.filterMap UInt8 Int (fun (b : UInt8) => @Option.some Int (@Nat.cast Int instNatCastInt b.toNat)) (@List.nil UInt8)))) (List.filterMap (fun (b : UInt8) => Option.some (↑b.toNat : Int)) []) (i7) (0) (0)))))
  (.ite (decide ((↑l4.length : Int) < (2 : Int))) (.chk (@Eq Nat (@List.length Int (@List.filterMap UInt8 Int (fun (b : UInt8) => @Option.some Int (@Nat.cast Int instNatCastInt b.toNat)) (@List.nil UInt8))) (@List.length Int (@List.filterMap UInt8 Int (fun (b : UInt8) => @Option.some Int (@Nat.cast Int instNatCastInt b.toNat)) (@List.nil UInt8)))) (.ret (.inl (.h1 (l4) (10) (@Nat.cast Int instNatCastInt (@List.length Int (@List.filterMap UInt8 Int (fun (b : UInt8) => @Option.some Int (@Nat.cast Int instNatCastInt b.toNat)) (@List.nil UInt8)))) (List.filterMap (fun (b : UInt8) => Option.some (↑b.toNat : Int)) []) (i7) (0) (0)))))
  (.chk ((0 : Int) ≤ (2 : Int) ∧ (2 : Int) ≤ (↑l4.length : Int)) (.chk ((0 : Int) ≤ (2 : Int) ∧ (2 : Int) ≤ (↑l4.length : Int)) (.chk ((List.filterMap (fun (b : UInt8) => Option.some (↑b.toNat : Int)) (List.drop (0 : Nat) (List.take (2 : Nat) l4))).length = (List.filterMap (fun (b : UInt8) => Option.some (↑b.toNat : Int)) (List.drop (0 : Nat) (List.take (2 : Nat) l4))).length) (.ret (.inl (.h1 (List.drop (2 : Nat) (List.take l4.length l4)) (i0) ((↑(List.filterMap (fun (b : UInt8) => Option.some (↑b.toNat : Int)) (List.drop (0 : Nat) (List.take (2 : Nat) l4))).length : Int)) (List.filterMap (fun (b : UInt8) => Option.some (↑b.toNat : Int)) (List.drop (0 : Nat) (List.take (2 : Nat) l4))) (i7) (0) (0))))))))))
  (.ite (!decide (i0 = 0)) (.chk (@Eq Nat (@List.length Int (@List.filterMap UInt8 Int (fun (b : UInt8) => @Option.some Int (@Nat.cast Int instNatCastInt b.toNat)) (@List.nil UInt8))) (@List.length Int (@List.filterMap UInt8 Int (fun (b : UInt8) => @Option.some Int (@Nat.cast Int instNatCastInt b.toNat)) (@List.nil UInt8)))) (.ret (.inl (.h1 (l4) (i0) (@Nat.cast Int instNatCastInt (@List.length Int (@List.filterMap UInt8 Int (fun (b : UInt8) => @Option.some Int (@Nat.cast Int instNatCastInt b.toNat)) (@List.nil UInt8)))) (List.filterMap (fun (b : UInt8) => Option.some (↑b.toNat : Int)) []) (i7) (0) (0)))))
  (.chk (@Eq Nat (@List.length Int (@List.filterMap UInt8 Int (fun (b : UInt8) => @Option.some Int (@Nat.cast Int instNatCastInt b.toNat)) (@List.nil UInt8))) (@List.length Int (@List.filterMap UInt8 Int (fun (b : UInt8) => @Option.some Int (@Nat.cast Int instNatCastInt b.toNat)) (@List.nil UInt8)))) (.ret (.inl (.h1 (l4) (1) (@Nat.cast Int instNatCastInt (@List.length Int (@List.filterMap UInt8 Int (fun (b : UInt8) => @Option.some Int (@Nat.cast Int instNatCastInt b.toNat)) (@List.nil UInt8)))) (List.filterMap (fun (b : UInt8) => Option.some (↑b.toNat : Int)) []) (i7) (0) (0))))))))
  | .h1 (l8) (i9) (i11) (l12) (i14) (i16) (i17) => (.ite (decide (i16 < i11)) (.chk ((0 : Int) ≤ i16 ∧ i16 < (↑l12.length : Int)) (.get (l12[(0 : Nat) + i16.toNat]?) fun (y29 : Int) => (.chk ((0 : Int) ≤ (8 : Int)) (.chk (l12.length = l12.length) (.ret (.inl (.h1 (l8) (i9) (i11) (l12) (i14) (IntKind.i64.wrap (i16 + 1)) (IntKind.u64.wrap (↑(BitVec.ofInt 64 (IntKind.u64.wrap (i17 * 2 ^ 8)) ||| BitVec.ofInt 64 (IntKind.u64.wrap y29)).toNat : Int)))))))))
  (.ite (decide (i14 = 0)) (.ite (decide ((1 : Int) ≤ (4 : Int))) (.ite (!decide (i9 = 0)) (.chk (@Eq Nat (@List.length Int (@List.filterMap UInt8 Int (fun (b : UInt8) => @Option.some Int (@Nat.cast Int instNatCastInt b.toNat)) (@List.nil UInt8))) (@List.length Int (@List.filterMap UInt8 Int (fun (b : UInt8) => @Option.some Int (@Nat.cast Int instNatCastInt b.toNat)) (@List.nil UInt8)))) (.ret (.inl (.h2 (@Nat.cast Int instNatCastInt (@List.length Int (@List.filterMap UInt8 Int (fun (b : UInt8) => @Option.some Int (@Nat.cast Int instNatCastInt b.toNat)) (@List.nil UInt8)))) (List.filterMap (fun (b : UInt8) => Option.some (↑b.toNat : Int)) []) (0) (0)))))
  (.ite (!decide ((4 : Int) ≤ (8 : Int))) (.chk (@Eq Nat (@List.length Int (@List.filterMap UInt8 Int (fun (b : UInt8) => @Option.some Int (@Nat.cast Int instNatCastInt b.toNat)) (@List.nil UInt8))) (@List.length Int (@List.filterMap UInt8 Int (fun (b : UInt8) => @Option.some Int (@Nat.cast Int instNatCastInt b.toNat)) (@List.nil UInt8)))) (.ret (.inl (.h2 (@Nat.cast Int instNatCastInt (@List.length Int (@List.filterMap UInt8 Int (fun (b : UInt8) => @Option.some Int (@Nat.cast Int instNatCastInt b.toNat)) (@List.nil UInt8)))) (List.filterMap (fun (b : UInt8) => Option.some (↑b.toNat : Int)) []) (0) (0)))))
  (.ite (decide ((↑l8.length : Int) < (4 : Int))) (.chk (@Eq Nat (@List.length Int (@List.filterMap UInt8 Int (fun (b : UInt8) => @Option.some Int (@Nat.cast Int instNatCastInt b.toNat)) (@List.nil UInt8))) (@List.length Int (@List.filterMap UInt8 Int (fun (b : UInt8) => @Option.some Int (@Nat.cast Int instNatCastInt b.toNat)) (@List.nil UInt8)))) (.ret (.inl (.h2 (@Nat.cast Int instNatCastInt (@List.length Int (@List.filterMap UInt8 Int (fun (b : UInt8) => @Option.some Int (@Nat.cast Int instNatCastInt b.toNat)) (@List.nil UInt8)))) (List.filterMap (fun (b : UInt8) => Option.some (↑b.toNat : Int)) []) (0) (0)))))
  (.chk ((0 : Int) ≤ (4 : Int) ∧ (4 : Int) ≤ (↑l8.length : Int)) (.chk ((0 : Int) ≤ (4 : Int) ∧ (4 : Int) ≤ (↑l8.length : Int)) (.chk ((List.filterMap (fun (b : UInt8) => Option.some (↑b.toNat : Int)) (List.drop (0 : Nat) (List.take (4 : Nat) l8))).length = (List.filterMap (fun (b : UInt8) => Option.some (↑b.toNat : Int)) (List.drop (0 : Nat) (List.take (4 : Nat) l8))).length) (.ret (.inl (.h2 ((↑(List.filterMap (fun (b : UInt8) => Option.some (↑b.toNat : Int)) (List.drop (0 : Nat) (List.take (4 : Nat) l8))).length : Int)) (List.filterMap (fun (b : UInt8) => Option.some (↑b.toNat : Int)) (List.drop (0 : Nat) (List.take (4 : Nat) l8))) (0) (0))))))))))
  (.ite (!decide (i9 = 0)) (.chk (@Eq Nat (@List.length Int (@List.filterMap UInt8 Int (fun (b : UInt8) => @Option.some Int (@Nat.cast Int instNatCastInt b.toNat)) (@List.nil UInt8))) (@List.length Int (@List.filterMap UInt8 Int (fun (b : UInt8) => @Option.some Int (@Nat.cast Int instNatCastInt b.toNat)) (@List.nil UInt8)))) (.ret (.inl (.h2 (@Nat.cast Int instNatCastInt (@List.length Int (@List.filterMap UInt8 Int (fun (b : UInt8) => @Option.some Int (@Nat.cast Int instNatCastInt b.toNat)) (@List.nil UInt8)))) (List.filterMap (fun (b : UInt8) => Option.some (↑b.toNat : Int)) []) (0) (0)))))
  (.chk (@Eq Nat (@List.length Int (@List.filterMap UInt8 Int (fun (b : UInt8) => @Option.some Int (@Nat.cast Int instNatCastInt b.toNat)) (@List.nil UInt8))) (@List.length Int (@List.filterMap UInt8 Int (fun (b : UInt8) => @Option.some Int (@Nat.cast Int instNatCastInt b.toNat)) (@List.nil UInt8)))) (.ret (.inl (.h2 (@Nat.cast Int instNatCastInt (@List.length Int (@List.filterMap UInt8 Int (fun (b : UInt8) => @Option.some Int (@Nat.cast Int instNatCastInt b.toNat)) (@List.nil UInt8)))) (List.filterMap (fun (b : UInt8) => Option.some (↑b.toNat : Int)) []) (0) (0)))))))
  (.ite (decide (i14 = 22)) (.ite (decide ((1 : Int) ≤ (4 : Int))) (.ite (!decide (i9 = 0)) (.chk (@Eq Nat (@List.length Int (@List.filterMap UInt8 Int (fun (b : UInt8) => @Option.some Int (@Nat.cast Int instNatCastInt b.toNat)) (@List.nil UInt8))) (@List.length Int (@List.filterMap UInt8 Int (fun (b : UInt8) => @Option.some Int (@Nat.cast Int instNatCastInt b.toNat)) (@List.nil UInt8)))) (.ret (.inl (.h3 (@Nat.cast Int instNatCastInt (@List.length Int (@List.filterMap UInt8 Int (fun (b : UInt8) => @Option.some Int (@Nat.cast Int instNatCastInt b.toNat)) (@List.nil UInt8)))) (List.filterMap (fun (b : UInt8) => Option.some (↑b.toNat : Int)) []) (0) (0)))))
  (.ite (!decide ((4 : Int) ≤ (8 : Int))) (.chk (@Eq Nat (@List.length Int (@List.filterMap UInt8 Int (fun (b : UInt8) => @Option.some Int (@Nat.cast Int instNatCastInt b.toNat)) (@List.nil UInt8))) (@List.length Int (@List.filterMap UInt8 Int (fun (b : UInt8) => @Option.some Int (@Nat.cast Int instNatCastInt b.toNat)) (@List.nil UInt8)))) (.ret (.inl (.h3 (@Nat.cast Int instNatCastInt (@List.length Int (@List.filterMap UInt8 Int (fun (b : UInt8) => @Option.some Int (@Nat.cast Int instNatCastInt b.toNat)) (@List.nil UInt8)))) (List.filterMap (fun (b : UInt8) => Option.some (↑b.toNat : Int)) []) (0) (0)))))
  (.ite (decide ((↑l8.length : Int) < (4 : Int))) (.chk (@Eq Nat (@List.length Int (@List.filterMap UInt8 Int (fun (b : UInt8) => @Option.some Int (@Nat.cast Int instNatCastInt b.toNat)) (@List.nil UInt8))) (@List.length Int (@List.filterMap UInt8 Int (fun (b : UInt8) => @Option.some Int (@Nat.cast Int instNatCastInt b.toNat)) (@List.nil UInt8)))) (.ret (.inl (.h3 (@Nat.cast Int instNatCastInt (@List.length Int (@List.filterMap UInt8 Int (fun (b : UInt8) => @Option.some Int (@Nat.cast Int instNatCastInt b.toNat)) (@List.nil UInt8)))) (List.filterMap (fun (b : UInt8) => Option.some (↑b.toNat : Int)) []) (0) (0)))))
  (.chk ((0 : Int) ≤ (4 : Int) ∧ (4 : Int) ≤ (↑l8.length : Int)) (.chk ((0 : Int) ≤ (4 : Int) ∧ (4 : Int) ≤ (↑l8.length : Int)) (.chk ((List.filterMap (fun (b : UInt8) => Option.some (↑b.toNat : Int)) (List.drop (0 : Nat) (List.take (4 : Nat) l8))).length = (List.filterMap (fun (b : UInt8) => Option.some (↑b.toNat : Int)) (List.drop (0 : Nat) (List.take (4 : Nat) l8))).length) (.ret (.inl (.h3 ((↑(List.filterMap (fun (b : UInt8) => Option.some (↑b.toNat : Int)) (List.drop (0 : Nat) (List.take (4 : Nat) l8))).length : Int)) (List.filterMap (fun (b : UInt8) => Option.some (↑b.toNat : Int)) (List.drop (0 : Nat) (List.take (4 : Nat) l8))) (0) (0))))))))))
  (.ite (!decide (i9 = 0)) (.chk (@Eq Nat (@List.length Int (@List.filterMap UInt8 Int (fun (b : UInt8) => @Option.some Int (@Nat.cast Int instNatCastInt b.toNat)) (@List.nil UInt8))) (@List.length Int (@List.filterMap UInt8 Int (fun (b : UInt8) => @Option.some Int (@Nat.cast Int instNatCastInt b.toNat)) (@List.nil UInt8)))) (.ret (.inl (.h3 (@Nat.cast Int instNatCastInt (@List.length Int (@List.filterMap UInt8 Int (fun (b : UInt8) => @Option.some Int (@Nat.cast Int instNatCastInt b.toNat)) (@List.nil UInt8)))) (List.filterMap (fun (b : UInt8) => Option.some (↑b.toNat : Int)) []) (0) (0)))))
  (.chk (@Eq Nat (@List.length Int (@List.filterMap UInt8 Int (fun (b : UInt8) => @Option.some Int (@Nat.cast Int instNatCastInt b.toNat)) (@List.nil UInt8))) (@List.length Int (@List.filterMap UInt8 Int (fun (b : UInt8) => @Option.some Int (@Nat.cast Int instNatCastInt b.toNat)) (@List.nil UInt8)))) (.ret (.inl (.h3 (@Nat.cast Int instNatCastInt (@List.length Int (@List.filterMap UInt8 Int (fun (b : UInt8) => @Option.some Int (@Nat.cast Int instNatCastInt b.toNat)) (@List.nil UInt8)))) (List.filterMap (fun (b : UInt8) => Option.some (↑b.toNat : Int)) []) (0) (0)))))))
  (.ite (decide (i14 = 17)) (.ret (.inr ⟨(3), (0), (0)⟩))
  (.ite (decide (i14 = 18)) (.ret (.inr ⟨(4), (0), (0)⟩))
  (.ite (decide (i14 = 25)) (.ite (decide ((1 : Int) ≤ (2 : Int))) (.ite (!decide (i9 = 0)) (.chk (@Eq Nat (@List.length Int (@List.filterMap UInt8 Int (fun (b : UInt8) => @Option.some Int (@Nat.cast Int instNatCastInt b.toNat)) (@List.nil UInt8))) (@List.length Int (@List.filterMap UInt8 Int (fun (b : UInt8) => @Option.some Int (@Nat.cast Int instNatCastInt b.toNat)) (@List.nil UInt8)))) (.ret (.inl (.h4 (l8) (i9) (@Nat.cast Int instNatCastInt (@List.length Int (@List.filterMap UInt8 Int (fun (b : UInt8) => @Option.some Int (@Nat.cast Int instNatCastInt b.toNat)) (@List.nil UInt8)))) (List.filterMap (fun (b : UInt8) => Option.some (↑b.toNat : Int)) []) (0) (0)))))
  (.ite (!decide ((2 : Int) ≤ (8 : Int))) (.chk (@Eq Nat (@List.length Int (@List.filterMap UInt8 Int (fun (b : UInt8) => @Option.some Int (@Nat.cast Int instNatCastInt b.toNat)) (@List.nil UInt8))) (@List.length Int (@List.filterMap UInt8 Int (fun (b : UInt8) => @Option.some Int (@Nat.cast Int instNatCastInt b.toNat)) (@List.nil UInt8)))) (.ret (.inl (.h4 (l8) (1) (@Nat.cast Int instNatCastInt (@List.length Int (@List.filterMap UInt8 Int (fun (b : UInt8) => @Option.some Int (@Nat.cast Int instNatCastInt b.toNat)) (@List.nil UInt8)))) (List.filterMap (fun (b : UInt8) => Option.some (↑b.toNat : Int)) []) (0) (0)))))
  (.ite (decide ((↑l8.length : Int) < (2 : Int))) (.chk (@Eq Nat (@List.length Int (@List.filterMap UInt8 Int (fun (b : UInt8) => @Option.some Int (@Nat.cast Int instNatCastInt b.toNat)) (@List.nil UInt8))) (@List.length Int (@List.filterMap UInt8 Int (fun (b : UInt8) => @Option.some Int (@Nat.cast Int instNatCastInt b.toNat)) (@List.nil UInt8)))) (.ret (.inl (.h4 (l8) (10) (@Nat.cast Int instNatCastInt (@List.length Int (@List.filterMap UInt8 Int (fun (b : UInt8) => @Option.some Int (@Nat.cast Int instNatCastInt b.toNat)) (@List.nil UInt8)))) (List.filterMap (fun (b : UInt8) => Option.some (↑b.toNat : Int)) []) (0) (0)))))
  (.chk ((0 : Int) ≤ (2 : Int) ∧ (2 : Int) ≤ (↑l8.length : Int)) (.chk ((0 : Int) ≤ (2 : Int) ∧ (2 : Int) ≤ (↑l8.length : Int)) (.chk ((List.filterMap (fun (b : UInt8) => Option.some (↑b.toNat : Int)) (List.drop (0 : Nat) (List.take (2 : Nat) l8))).length = (List.filterMap (fun (b : UInt8) => Option.some (↑b.toNat : Int)) (List.drop (0 : Nat) (List.take (2 : Nat) l8))).length) (.ret (.inl (.h4 (List.drop (2 : Nat) (List.take l8.length l8)) (i9) ((↑(List.filterMap (fun (b : UInt8) => Option.some (↑b.toNat : Int)) (List.drop (0 : Nat) (List.take (2 : Nat) l8))).length : Int)) (List.filterMap (fun (b : UInt8) => Option.some (↑b.toNat : Int)) (List.drop (0 : Nat) (List.take (2 : Nat) l8))) (0) (0))))))))))
  (.ite (!decide (i9 = 0)) (.chk (@Eq Nat (@List.length Int (@List.filterMap UInt8 Int (fun (b : UInt8) => @Option.some Int (@Nat.cast Int instNatCastInt b.toNat)) (@List.nil UInt8))) (@List.length Int (@List.filterMap UInt8 Int (fun (b : UInt8) => @Option.some Int (@Nat.cast Int instNatCastInt b.toNat)) (@List.nil UInt8)))) (.ret (.inl (.h4 (l8) (i9) (@Nat.cast Int instNatCastInt (@List.length Int (@List.filterMap UInt8 Int (fun (b : UInt8) => @Option.some Int (@Nat.cast Int instNatCastInt b.toNat)) (@List.nil UInt8)))) (List.filterMap (fun (b : UInt8) => Option.some (↑b.toNat : Int)) []) (0) (0)))))
  (.chk (@Eq Nat (@List.length Int (@List.filterMap UInt8 Int (fun (b : UInt8) => @Option.some Int (@Nat.cast Int instNatCastInt b.toNat)) (@List.nil UInt8))) (@List.length Int (@List.filterMap UInt8 Int (fun (b : UInt8) => @Option.some Int (@Nat.cast Int instNatCastInt b.toNat)) (@List.nil UInt8)))) (.ret (.inl (.h4 (l8) (1) (@Nat.cast Int instNatCastInt (@List.length Int (@List.filterMap UInt8 Int (fun (b : UInt8) => @Option.some Int (@Nat.cast Int instNatCastInt b.toNat)) (@List.nil UInt8)))) (List.filterMap (fun (b : UInt8) => Option.some (↑b.toNat : Int)) []) (0) (0)))))))
  (.ret (.inr ⟨(0), (0), (0)⟩))))))))
  | .h2 (i19) (l20) (i31) (i32) => (.ite (decide (i31 < i19)) (.chk ((0 : Int) ≤ i31 ∧ i31 < (↑l20.length : Int)) (.get (l20[(0 : Nat) + i31.toNat]?) fun (y44 : Int) => (.chk ((0 : Int) ≤ (8 : Int)) (.chk (l20.length = l20.length) (.ret (.inl (.h2 (i19) (l20) (IntKind.i64.wrap (i31 + 1)) (IntKind.u64.wrap (↑(BitVec.ofInt 64 (IntKind.u64.wrap (i32 * 2 ^ 8)) ||| BitVec.ofInt 64 (IntKind.u64.wrap y44)).toNat : Int)))))))))
  (.ret (.inr ⟨(1), (0), (i32)⟩)))
  | .h3 (i22) (l23) (i34) (i35) => (.ite (decide (i34 < i22)) (.chk ((0 : Int) ≤ i34 ∧ i34 < (↑l23.length : Int)) (.get (l23[(0 : Nat) + i34.toNat]?) fun (y45 : Int) => (.chk ((0 : Int) ≤ (8 : Int)) (.chk (l23.length = l23.length) (.ret (.inl (.h3 (i22) (l23) (IntKind.i64.wrap (i34 + 1)) (IntKind.u64.wrap (↑(BitVec.ofInt 64 (IntKind.u64.wrap (i35 * 2 ^ 8)) ||| BitVec.ofInt 64 (IntKind.u64.wrap y45)).toNat : Int)))))))))
  (.ret (.inr ⟨(2), (0), (i35)⟩)))
  | .h4 (l24) (i25) (i27) (l28) (i37) (i38) => (.ite (decide (i37 < i27)) (.chk ((0 : Int) ≤ i37 ∧ i37 < (↑l28.length : Int)) (.get (l28[(0 : Nat) + i37.toNat]?) fun (y46 : Int) => (.chk ((0 : Int) ≤ (8 : Int)) (.chk (l28.length = l28.length) (.ret (.inl (.h4 (l24) (i25) (i27) (l28) (IntKind.i64.wrap (i37 + 1)) (IntKind.u64.wrap (↑(BitVec.ofInt 64 (IntKind.u64.wrap (i38 * 2 ^ 8)) ||| BitVec.ofInt 64 (IntKind.u64.wrap y46)).toNat : Int)))))))))
  (.ite (decide ((1 : Int) ≤ (1 : Int))) (.ite (!decide (i25 = 0)) (.chk (@Eq Nat (@List.length Int (@List.filterMap UInt8 Int (fun (b : UInt8) => @Option.some Int (@Nat.cast Int instNatCastInt b.toNat)) (@List.nil UInt8))) (@List.length Int (@List.filterMap UInt8 Int (fun (b : UInt8) => @Option.some Int (@Nat.cast Int instNatCastInt b.toNat)) (@List.nil UInt8)))) (.ret (.inl (.h5 (l24) (i25) (@Nat.cast Int instNatCastInt (@List.length Int (@List.filterMap UInt8 Int (fun (b : UInt8) => @Option.some Int (@Nat.cast Int instNatCastInt b.toNat)) (@List.nil UInt8)))) (List.filterMap (fun (b : UInt8) => Option.some (↑b.toNat : Int)) []) (0) (0)))))
  (.ite (!decide ((1 : Int) ≤ (8 : Int))) (.chk (@Eq Nat (@List.length Int (@List.filterMap UInt8 Int (fun (b : UInt8) => @Option.some Int (@Nat.cast Int instNatCastInt b.toNat)) (@List.nil UInt8))) (@List.length Int (@List.filterMap UInt8 Int (fun (b : UInt8) => @Option.some Int (@Nat.cast Int instNatCastInt b.toNat)) (@List.nil UInt8)))) (.ret (.inl (.h5 (l24) (1) (@Nat.cast Int instNatCastInt (@List.length Int (@List.filterMap UInt8 Int (fun (b : UInt8) => @Option.some Int (@Nat.cast Int instNatCastInt b.toNat)) (@List.nil UInt8)))) (List.filterMap (fun (b : UInt8) => Option.some (↑b.toNat : Int)) []) (0) (0)))))
  (.ite (decide ((↑l24.length : Int) < (1 : Int))) (.chk (@Eq Nat (@List.length Int (@List.filterMap UInt8 Int (fun (b : UInt8) => @Option.some Int (@Nat.cast Int instNatCastInt b.toNat)) (@List.nil UInt8))) (@List.length Int (@List.filterMap UInt8 Int (fun (b : UInt8) => @Option.some Int (@Nat.cast Int instNatCastInt b.toNat)) (@List.nil UInt8)))) (.ret (.inl (.h5 (l24) (10) (@Nat.cast Int instNatCastInt (@List.length Int (@List.filterMap UInt8 Int (fun (b : UInt8) => @Option.some Int (@Nat.cast Int instNatCastInt b.toNat)) (@List.nil UInt8)))) (List.filterMap (fun (b : UInt8) => Option.some (↑b.toNat : Int)) []) (0) (0)))))
  (.chk ((0 : Int) ≤ (1 : Int) ∧ (1 : Int) ≤ (↑l24.length : Int)) (.chk ((0 : Int) ≤ (1 : Int) ∧ (1 : Int) ≤ (↑l24.length : Int)) (.chk ((List.filterMap (fun (b : UInt8) => Option.some (↑b.toNat : Int)) (List.drop (0 : Nat) (List.take (1 : Nat) l24))).length = (List.filterMap (fun (b : UInt8) => Option.some (↑b.toNat : Int)) (List.drop (0 : Nat) (List.take (1 : Nat) l24))).length) (.ret (.inl (.h5 (List.drop (1 : Nat) (List.take l24.length l24)) (i25) ((↑(List.filterMap (fun (b : UInt8) => Option.some (↑b.toNat : Int)) (List.drop (0 : Nat) (List.take (1 : Nat) l24))).length : Int)) (List.filterMap (fun (b : UInt8) => Option.some (↑b.toNat : Int)) (List.drop (0 : Nat) (List.take (1 : Nat) l24))) (0) (0))))))))))
  (.ite (!decide (i25 = 0)) (.chk (@Eq Nat (@List.length Int (@List.filterMap UInt8 Int (fun (b : UInt8) => @Option.some Int (@Nat.cast Int instNatCastInt b.toNat)) (@List.nil UInt8))) (@List.length Int (@List.filterMap UInt8 Int (fun (b : UInt8) => @Option.some Int (@Nat.cast Int instNatCastInt b.toNat)) (@List.nil UInt8)))) (.ret (.inl (.h5 (l24) (i25) (@Nat.cast Int instNatCastInt (@List.length Int (@List.filterMap UInt8 Int (fun (b : UInt8) => @Option.some Int (@Nat.cast Int instNatCastInt b.toNat)) (@List.nil UInt8)))) (List.filterMap (fun (b : UInt8) => Option.some (↑b.toNat : Int)) []) (0) (0)))))
  (.chk (@Eq Nat (@List.length Int (@List.filterMap UInt8 Int (fun (b : UInt8) => @Option.some Int (@Nat.cast Int instNatCastInt b.toNat)) (@List.nil UInt8))) (@List.length Int (@List.filterMap UInt8 Int (fun (b : UInt8) => @Option.some Int (@Nat.cast Int instNatCastInt b.toNat)) (@List.nil UInt8)))) (.ret (.inl (.h5 (l24) (1) (@Nat.cast Int instNatCastInt (@List.length Int (@List.filterMap UInt8 Int (fun (b : UInt8) => @Option.some Int (@Nat.cast Int instNatCastInt b.toNat)) (@List.nil UInt8)))) (List.filterMap (fun (b : UInt8) => Option.some (↑b.toNat : Int)) []) (0) (0))))))))
  | .h5 (l39) (i40) (i42) (l43) (i49) (i50) => (.ite (decide (i49 < i42)) (.chk ((0 : Int) ≤ i49 ∧ i49 < (↑l43.length : Int)) (.get (l43[(0 : Nat) + i49.toNat]?) fun (y57 : Int) => (.chk ((0 : Int) ≤ (8 : Int)) (.chk (l43.length = l43.length) (.ret (.inl (.h5 (l39) (i40) (i42) (l43) (IntKind.i64.wrap (i49 + 1)) (IntKind.u64.wrap (↑(BitVec.ofInt 64 (IntKind.u64.wrap (i50 * 2 ^ 8)) ||| BitVec.ofInt 64 (IntKind.u64.wrap y57)).toNat : Int)))))))))
  (.get (f73 i50) fun (y58 : Int) => (.ite (decide ((1 : Int) ≤ (1 : Int))) (.ite (!decide (i40 = 0)) (.chk (@Eq Nat (@List.length Int (@List.filterMap UInt8 Int (fun (b : UInt8) => @Option.some Int (@Nat.cast Int instNatCastInt b.toNat)) (@List.nil UInt8))) (@List.length Int (@List.filterMap UInt8 Int (fun (b : UInt8) => @Option.some Int (@Nat.cast Int instNatCastInt b.toNat)) (@List.nil UInt8)))) (.ret (.inl (.h6 (y58) (l39) (i40) (@Nat.cast Int instNatCastInt (@List.length Int (@List.filterMap UInt8 Int (fun (b : UInt8) => @Option.some Int (@Nat.cast Int instNatCastInt b.toNat)) (@List.nil UInt8)))) (List.filterMap (fun (b : UInt8) => Option.some (↑b.toNat : Int)) []) (0) (0)))))
  (.ite (!decide ((1 : Int) ≤ (8 : Int))) (.chk (@Eq Nat (@List.length Int (@List.filterMap UInt8 Int (fun (b : UInt8) => @Option.some Int (@Nat.cast Int instNatCastInt b.toNat)) (@List.nil UInt8))) (@List.length Int (@List.filterMap UInt8 Int (fun (b : UInt8) => @Option.some Int (@Nat.cast Int instNatCastInt b.toNat)) (@List.nil UInt8)))) (.ret (.inl (.h6 (y58) (l39) (1) (@Nat.cast Int instNatCastInt (@List.length Int (@List.filterMap UInt8 Int (fun (b : UInt8) => @Option.some Int (@Nat.cast Int instNatCastInt b.toNat)) (@List.nil UInt8)))) (List.filterMap (fun (b : UInt8) => Option.some (↑b.toNat : Int)) []) (0) (0)))))
  (.ite (decide ((↑l39.length : Int) < (1 : Int))) (.chk (@Eq Nat (@List.length Int (@List.filterMap UInt8 Int (fun (b : UInt8) => @Option.some Int (@Nat.cast Int instNatCastInt b.toNat)) (@List.nil UInt8))) (@List.length Int (@List.filterMap UInt8 Int (fun (b : UInt8) => @Option.some Int (@Nat.cast Int instNatCastInt b.toNat)) (@List.nil UInt8)))) (.ret (.inl (.h6 (y58) (l39) (10) (@Nat.cast Int instNatCastInt (@List.length Int (@List.filterMap UInt8 Int (fun (b : UInt8) => @Option.some Int (@Nat.cast Int instNatCastInt b.toNat)) (@List.nil UInt8)))) (List.filterMap (fun (b : UInt8) => Option.some (↑b.toNat : Int)) []) (0) (0)))))
  (.chk ((0 : Int) ≤ (1 : Int) ∧ (1 : Int) ≤ (↑l39.length : Int)) (.chk ((0 : Int) ≤ (1 : Int) ∧ (1 : Int) ≤ (↑l39.length : Int)) (.chk ((List.filterMap (fun (b : UInt8) => Option.some (↑b.toNat : Int)) (List.drop (0 : Nat) (List.take (1 : Nat) l39))).length = (List.filterMap (fun (b : UInt8) => Option.some (↑b.toNat : Int)) (List.drop (0 : Nat) (List.take (1 : Nat) l39))).length) (.ret (.inl (.h6 (y58) (List.drop (1 : Nat) (List.take l39.length l39)) (i40) ((↑(List.filterMap (fun (b : UInt8) => Option.some (↑b.toNat : Int)) (List.drop (0 : Nat) (List.take (1 : Nat) l39))).length : Int)) (List.filterMap (fun (b : UInt8) => Option.some (↑b.toNat : Int)) (List.drop (0 : Nat) (List.take (1 : Nat) l39))) (0) (0))))))))))
  (.ite (!decide (i40 = 0)) (.chk (@Eq Nat (@List.length Int (@List.filterMap UInt8 Int (fun (b : UInt8) => @Option.some Int (@Nat.cast Int instNatCastInt b.toNat)) (@List.nil UInt8))) (@List.length Int (@List.filterMap UInt8 Int (fun (b : UInt8) => @Option.some Int (@Nat.cast Int instNatCastInt b.toNat)) (@List.nil UInt8)))) (.ret (.inl (.h6 (y58) (l39) (i40) (@Nat.cast Int instNatCastInt (@List.length Int (@List.filterMap UInt8 Int (fun (b : UInt8) => @Option.some Int (@Nat.cast Int instNatCastInt b.toNat)) (@List.nil UInt8)))) (List.filterMap (fun (b : UInt8) => Option.some (↑b.toNat : Int)) []) (0) (0)))))
  (.chk (@Eq Nat (@List.length Int (@List.filterMap UInt8 Int (fun (b : UInt8) => @Option.some Int (@Nat.cast Int instNatCastInt b.toNat)) (@List.nil UInt8))) (@List.length Int (@List.filterMap UInt8 Int (fun (b : UInt8) => @Option.some Int (@Nat.cast Int instNatCastInt b.toNat)) (@List.nil UInt8)))) (.ret (.inl (.h6 (y58) (l39) (1) (@Nat.cast Int instNatCastInt (@List.length Int (@List.filterMap UInt8 Int (fun (b : UInt8) => @Option.some Int (@Nat.cast Int instNatCastInt b.toNat)) (@List.nil UInt8)))) (List.filterMap (fun (b : UInt8) => Option.some (↑b.toNat : Int)) []) (0) (0)))))))))
  | .h6 (i51) (l52) (i53) (i55) (l56) (i60) (i61) => (.ite (decide (i60 < i55)) (.chk ((0 : Int) ≤ i60 ∧ i60 < (↑l56.length : Int)) (.get (l56[(0 : Nat) + i60.toNat]?) fun (y66 : Int) => (.chk ((0 : Int) ≤ (8 : Int)) (.chk (l56.length = l56.length) (.ret (.inl (.h6 (i51) (l52) (i53) (i55) (l56) (IntKind.i64.wrap (i60 + 1)) (IntKind.u64.wrap (↑(BitVec.ofInt 64 (IntKind.u64.wrap (i61 * 2 ^ 8)) ||| BitVec.ofInt 64 (IntKind.u64.wrap y66)).toNat : Int)))))))))
  (.ite (decide ((1 : Int) ≤ Max.max (f32 i51).snd (1 : Int))) (.ite (!decide (i53 = 0)) (.chk (@Eq Nat (@List.length Int (@List.filterMap UInt8 Int (fun (b : UInt8) => @Option.some Int (@Nat.cast Int instNatCastInt b.toNat)) (@List.nil UInt8))) (@List.length Int (@List.filterMap UInt8 Int (fun (b : UInt8) => @Option.some Int (@Nat.cast Int instNatCastInt b.toNat)) (@List.nil UInt8)))) (.ret (.inl (.h7 (i51) (@Nat.cast Int instNatCastInt (@List.length Int (@List.filterMap UInt8 Int (fun (b : UInt8) => @Option.some Int (@Nat.cast Int instNatCastInt b.toNat)) (@List.nil UInt8)))) (List.filterMap (fun (b : UInt8) => Option.some (↑b.toNat : Int)) []) (0) (0)))))
  (.ite (!decide (Max.max (f32 i51).snd (1 : Int) ≤ (8 : Int))) (.chk (@Eq Nat (@List.length Int (@List.filterMap UInt8 Int (fun (b : UInt8) => @Option.some Int (@Nat.cast Int instNatCastInt b.toNat)) (@List.nil UInt8))) (@List.length Int (@List.filterMap UInt8 Int (fun (b : UInt8) => @Option.some Int (@Nat.cast Int instNatCastInt b.toNat)) (@List.nil UInt8)))) (.ret (.inl (.h7 (i51) (@Nat.cast Int instNatCastInt (@List.length Int (@List.filterMap UInt8 Int (fun (b : UInt8) => @Option.some Int (@Nat.cast Int instNatCastInt b.toNat)) (@List.nil UInt8)))) (List.filterMap (fun (b : UInt8) => Option.some (↑b.toNat : Int)) []) (0) (0)))))
  (.ite (decide ((↑l52.length : Int) < Max.max (f32 i51).snd (1 : Int))) (.chk (@Eq Nat (@List.length Int (@List.filterMap UInt8 Int (fun (b : UInt8) => @Option.some Int (@Nat.cast Int instNatCastInt b.toNat)) (@List.nil UInt8))) (@List.length Int (@List.filterMap UInt8 Int (fun (b : UInt8) => @Option.some Int (@Nat.cast Int instNatCastInt b.toNat)) (@List.nil UInt8)))) (.ret (.inl (.h7 (i51) (@Nat.cast Int instNatCastInt (@List.length Int (@List.filterMap UInt8 Int (fun (b : UInt8) => @Option.some Int (@Nat.cast Int instNatCastInt b.toNat)) (@List.nil UInt8)))) (List.filterMap (fun (b : UInt8) => Option.some (↑b.toNat : Int)) []) (0) (0)))))
  (.chk ((0 : Int) ≤ Max.max (f32 i51).snd (1 : Int) ∧ Max.max (f32 i51).snd (1 : Int) ≤ (↑l52.length : Int)) (.chk ((0 : Int) ≤ Max.max (f32 i51).snd (1 : Int) ∧ Max.max (f32 i51).snd (1 : Int) ≤ (↑l52.length : Int)) (.chk ((List.filterMap (fun (b : UInt8) => Option.some (↑b.toNat : Int)) (List.drop (0 : Nat) (List.take (Max.max (f32 i51).snd (1 : Int)).toNat l52))).length = (List.filterMap (fun (b : UInt8) => Option.some (↑b.toNat : Int)) (List.drop (0 : Nat) (List.take (Max.max (f32 i51).snd (1 : Int)).toNat l52))).length) (.ret (.inl (.h7 (i51) ((↑(List.filterMap (fun (b : UInt8) => Option.some (↑b.toNat : Int)) (List.drop (0 : Nat) (List.take (Max.max (f32 i51).snd (1 : Int)).toNat l52))).length : Int)) (List.filterMap (fun (b : UInt8) => Option.some (↑b.toNat : Int)) (List.drop (0 : Nat) (List.take (Max.max (f32 i51).snd (1 : Int)).toNat l52))) (0) (0))))))))))
  (.ite (!decide (i53 = 0)) (.chk (@Eq Nat (@List.length Int (@List.filterMap UInt8 Int (fun (b : UInt8) => @Option.some Int (@Nat.cast Int instNatCastInt b.toNat)) (@List.nil UInt8))) (@List.length Int (@List.filterMap UInt8 Int (fun (b : UInt8) => @Option.some Int (@Nat.cast Int instNatCastInt b.toNat)) (@List.nil UInt8)))) (.ret (.inl (.h7 (i51) (@Nat.cast Int instNatCastInt (@List.length Int (@List.filterMap UInt8 Int (fun (b : UInt8) => @Option.some Int (@Nat.cast Int instNatCastInt b.toNat)) (@List.nil UInt8)))) (List.filterMap (fun (b : UInt8) => Option.some (↑b.toNat : Int)) []) (0) (0)))))
  (.chk (@Eq Nat (@List.length Int (@List.filterMap UInt8 Int (fun (b : UInt8) => @Option.some Int (@Nat.cast Int instNatCastInt b.toNat)) (@List.nil UInt8))) (@List.length Int (@List.filterMap UInt8 Int (fun (b : UInt8) => @Option.some Int (@Nat.cast Int instNatCastInt b.toNat)) (@List.nil UInt8)))) (.ret (.inl (.h7 (i51) (@Nat.cast Int instNatCastInt (@List.length Int (@List.filterMap UInt8 Int (fun (b : UInt8) => @Option.some Int (@Nat.cast Int instNatCastInt b.toNat)) (@List.nil UInt8)))) (List.filterMap (fun (b : UInt8) => Option.some (↑b.toNat : Int)) []) (0) (0))))))))
  | .h7 (i62) (i64) (l65) (i68) (i69) => (.ite (decide (i68 < i64)) (.chk ((0 : Int) ≤ i68 ∧ i68 < (↑l65.length : Int)) (.get (l65[(0 : Nat) + i68.toNat]?) fun (y70 : Int) => (.chk ((0 : Int) ≤ (8 : Int)) (.chk (l65.length = l65.length) (.ret (.inl (.h7 (i62) (i64) (l65) (IntKind.i64.wrap (i68 + 1)) (IntKind.u64.wrap (↑(BitVec.ofInt 64 (IntKind.u64.wrap (i69 * 2 ^ 8)) ||| BitVec.ofInt 64 (IntKind.u64.wrap y70)).toNat : Int)))))))))
  (.ret (.inr ⟨(5), (i62), (i69)⟩)))
theorem E49 : ∀ s, headC C tab knActG1_39 i49.rs H49 (.agg [.i .i64, .i .i64, .i .u64]) 5000 (m49 s) = (g49 s).map (Sum.map m49 (fun (r : Action) => (((.agg (cellsG (G.ty 31) (G.to 31 (r))))) : SV Th)))
  | .h0 (i0) (i2) (l3) (l4) (i6) (i7) => by kernel_rfl
  | .h1 (l8) (i9) (i11) (l12) (i14) (i16) (i17) => by kernel_rfl
  | .h2 (i19) (l20) (i31) (i32) => by kernel_rfl
  | .h3 (i22) (l23) (i34) (i35) => by kernel_rfl
  | .h4 (l24) (i25) (i27) (l28) (i37) (i38) => by kernel_rfl
  | .h5 (l39) (i40) (i42) (l43) (i49) (i50) => by kernel_rfl
  | .h6 (i51) (l52) (i53) (i55) (l56) (i60) (i61) => by kernel_rfl
  | .h7 (i62) (i64) (l65) (i68) (i69) => by kernel_rfl
noncomputable def s49 (a0 : List UInt8) : Cm (L49 ⊕ Action) :=
  (.ite (decide ((1 : Int) ≤ (2 : Int))) (.ite (!decide ((0 : Int) = (0 : Int))) (.chk (@Eq Nat (@List.length Int (@List.filterMap UInt8 Int (fun (b : UInt8) => @Option.some Int (@Nat.cast Int instNatCastInt b.toNat)) (@List.nil UInt8))) (@List.length Int (@List.filterMap UInt8 Int (fun (b : UInt8) => @Option.some Int (@Nat.cast Int instNatCastInt b.toNat)) (@List.nil UInt8)))) (.ret (.inl (.h0 (0) (@Nat.cast Int instNatCastInt (@List.length Int (@List.filterMap UInt8 Int (fun (b : UInt8) => @Option.some Int (@Nat.cast Int instNatCastInt b.toNat)) (@List.nil UInt8)))) (List.filterMap (fun (b : UInt8) => Option.some (↑b.toNat : Int)) []) (a0) (0) (0)))))
  (.ite (!decide ((2 : Int) ≤ (8 : Int))) (.chk (@Eq Nat (@List.length Int (@List.filterMap UInt8 Int (fun (b : UInt8) => @Option.some Int (@Nat.cast Int instNatCastInt b.toNat)) (@List.nil UInt8))) (@List.length Int (@List.filterMap UInt8 Int (fun (b : UInt8) => @Option.some Int (@Nat.cast Int instNatCastInt b.toNat)) (@List.nil UInt8)))) (.ret (.inl (.h0 (1) (@Nat.cast Int instNatCastInt (@List.length Int (@List.filterMap UInt8 Int (fun (b : UInt8) => @Option.some Int (@Nat.cast Int instNatCastInt b.toNat)) (@List.nil UInt8)))) (List.filterMap (fun (b : UInt8) => Option.some (↑b.toNat : Int)) []) (a0) (0) (0)))))
  (.ite (decide ((↑a0.length : Int) < (2 : Int))) (.chk (@Eq Nat (@List.length Int (@List.filterMap UInt8 Int (fun (b : UInt8) => @Option.some Int (@Nat.cast Int instNatCastInt b.toNat)) (@List.nil UInt8))) (@List.length Int (@List.filterMap UInt8 Int (fun (b : UInt8) => @Option.some Int (@Nat.cast Int instNatCastInt b.toNat)) (@List.nil UInt8)))) (.ret (.inl (.h0 (10) (@Nat.cast Int instNatCastInt (@List.length Int (@List.filterMap UInt8 Int (fun (b : UInt8) => @Option.some Int (@Nat.cast Int instNatCastInt b.toNat)) (@List.nil UInt8)))) (List.filterMap (fun (b : UInt8) => Option.some (↑b.toNat : Int)) []) (a0) (0) (0)))))
  (.chk ((0 : Int) ≤ (2 : Int) ∧ (2 : Int) ≤ (↑a0.length : Int)) (.chk ((0 : Int) ≤ (2 : Int) ∧ (2 : Int) ≤ (↑a0.length : Int)) (.chk ((List.filterMap (fun (b : UInt8) => Option.some (↑b.toNat : Int)) (List.drop (0 : Nat) (List.take (2 : Nat) a0))).length = (List.filterMap (fun (b : UInt8) => Option.some (↑b.toNat : Int)) (List.drop (0 : Nat) (List.take (2 : Nat) a0))).length) (.ret (.inl (.h0 (0) ((↑(List.filterMap (fun (b : UInt8) => Option.some (↑b.toNat : Int)) (List.drop (0 : Nat) (List.take (2 : Nat) a0))).length : Int)) (List.filterMap (fun (b : UInt8) => Option.some (↑b.toNat : Int)) (List.drop (0 : Nat) (List.take (2 : Nat) a0))) (List.drop (2 : Nat) (List.take a0.length a0)) (0) (0))))))))))
  (.ite (!decide ((0 : Int) = (0 : Int))) (.chk (@Eq Nat (@List.length Int (@List.filterMap UInt8 Int (fun (b : UInt8) => @Option.some Int (@Nat.cast Int instNatCastInt b.toNat)) (@List.nil UInt8))) (@List.length Int (@List.filterMap UInt8 Int (fun (b : UInt8) => @Option.some Int (@Nat.cast Int instNatCastInt b.toNat)) (@List.nil UInt8)))) (.ret (.inl (.h0 (0) (@Nat.cast Int instNatCastInt (@List.length Int (@List.filterMap UInt8 Int (fun (b : UInt8) => @Option.some Int (@Nat.cast Int instNatCastInt b.toNat)) (@List.nil UInt8)))) (List.filterMap (fun (b : UInt8) => Option.some (↑b.toNat : Int)) []) (a0) (0) (0)))))
  (.chk (@Eq Nat (@List.length Int (@List.filterMap UInt8 Int (fun (b : UInt8) => @Option.some Int (@Nat.cast Int instNatCastInt b.toNat)) (@List.nil UInt8))) (@List.length Int (@List.filterMap UInt8 Int (fun (b : UInt8) => @Option.some Int (@Nat.cast Int instNatCastInt b.toNat)) (@List.nil UInt8)))) (.ret (.inl (.h0 (1) (@Nat.cast Int instNatCastInt (@List.length Int (@List.filterMap UInt8 Int (fun (b : UInt8) => @Option.some Int (@Nat.cast Int instNatCastInt b.toNat)) (@List.nil UInt8)))) (List.filterMap (fun (b : UInt8) => Option.some (↑b.toNat : Int)) []) (a0) (0) (0)))))))
theorem ES49 (y : ATup Th [.s]) : startC C tab knActG1_39 i49 H49 (.agg [.i .i64, .i .i64, .i .u64]) 5000 (encAs G [.s] y) = (s49 (y.1)).map (Sum.map m49 (fun (r : Action) => (((.agg (cellsG (G.ty 31) (G.to 31 (r))))) : SV Th))) := by kernel_rfl
noncomputable def f49 (a0 : List UInt8) : Option (Action) := runO g49 (s49 (a0))
theorem Q49 (y : ATup Th [.s]) (r : Action) (h : f49 (y.1) = some r) : PCall Try.prog C 49 (encAs G [.s] y) (· = (fun (r : Action) => (((.agg (cellsG (G.ty 31) (G.to 31 (r))))) : SV Th)) r) := runO_sound gok.ok koActG1_39 tabKnows E49 k49 rfl (by kernel_rfl) (by kernel_rfl) (ES49 y) h
noncomputable def knActG1_49 : KnownF Th := (49, knG G [.s] fun y => .get (f49 (y.1)) fun r => .ret ((fun (r : Action) => (((.agg (cellsG (G.ty 31) (G.to 31 (r))))) : SV Th)) r)) :: knActG1_39
theorem koActG1_49 : KnownOk Try.prog C knActG1_49 := KnownOk.add gok koActG1_39 (known_opt (enc := fun (r : Go.Proofs.Act.Action) => (((.agg (cellsG (G.ty 31) (G.to 31 (r))))) : SV Th)) Q49 (fun _ => rfl))
-- 90 drover/sum.folded
def H90 : List (List Nat × Hint) := [([13004], ⟨[0], [], [], [], [], [], [], 0⟩)]
inductive L90 where
  | h0 (i0 : Int)
noncomputable def m90 : L90 → Trip Th
  | .h0 (i0) => ([(.lp 13 c90_2), (.blk 0), (.seq 13 c90_3)], [(0, (.i .u64 (i0)))], [])
noncomputable def g90 : L90 → Cm (L90 ⊕ Int)
  | .h0 (i0) => (.chk ((0 : Int) ≤ (16 : Int)) (.ite (decide (0 < i0.fdiv (2 ^ 16))) (.chk ((0 : Int) ≤ (16 : Int)) (.ret (.inl (.h0 (IntKind.u64.wrap (IntKind.u64.wrap (↑(BitVec.ofInt 64 i0 &&& BitVec.ofInt 64 65535).toNat : Int) + i0.fdiv (2 ^ 16)))))))
  (.ret (.inr (IntKind.u16.wrap i0)))))
theorem E90 : ∀ s, headC C tab knActG1_49 i90.rs H90 (.i .u16) 5000 (m90 s) = (g90 s).map (Sum.map m90 (fun (r : Int) => (((.i .u16 (r))) : SV Th)))
  | .h0 (i0) => by kernel_rfl
noncomputable def s90 (a0 : Int) : Cm (L90 ⊕ Int) :=
  (.ret (.inl (.h0 (a0))))
theorem ES90 (y : ATup Th [.i .u64]) : startC C tab knActG1_49 i90 H90 (.i .u16) 5000 (encAs G [.i .u64] y) = (s90 (y.1)).map (Sum.map m90 (fun (r : Int) => (((.i .u16 (r))) : SV Th))) := by kernel_rfl
noncomputable def f90 (a0 : Int) : Option (Int) := runO g90 (s90 (a0))
theorem Q90 (y : ATup Th [.i .u64]) (r : Int) (h : f90 (y.1) = some r) : PCall Try.prog C 90 (encAs G [.i .u64] y) (· = (fun (r : Int) => (((.i .u16 (r))) : SV Th)) r) := runO_sound gok.ok koActG1_49 tabKnows E90 k90 rfl (by kernel_rfl) (by kernel_rfl) (ES90 y) h
noncomputable def knActG1_90 : KnownF Th := (90, knG G [.i .u64] fun y => .get (f90 (y.1)) fun r => .ret ((fun (r : Int) => (((.i .u16 (r))) : SV Th)) r)) :: knActG1_49
theorem koActG1_90 : KnownOk Try.prog C knActG1_90 := KnownOk.add gok koActG1_49 (known_opt (enc := fun (r : Int) => (((.i .u16 (r))) : SV Th)) Q90 (fun _ => rfl))
-- 79 drover/sum.Sum
def H79 : List (List Nat × Hint) := [([34010], ⟨[8, 3, 0, 7], [], [], [], [], [], [], 0⟩)]
inductive L79 where
  | h0 (a0 : List UInt8) (i4 : Int) (i5 : Int)
noncomputable def m79 : L79 → Trip Th
  | .h0 (a0) (i4) (i5) => ([(.lp 34 c79_10), (.blk 0), (.seq 34 c79_13)], [(8, (.i .i64 (i4))), (3, (.i .u64 (i5))), (0, (.s (a0))), (7, (.i .i64 ((↑a0.length : Int))))], [])
noncomputable def g79 : L79 → Cm (L79 ⊕ Int)
  | .h0 (a0) (i4) (i5) => (.ite (decide (i4 < (↑a0.length : Int))) (.chk ((0 : Int) ≤ i4) (.get (a0[i4.toNat]?) fun (y6 : UInt8) => (.chk ((2 : Int) ≠ (0 : Int)) (.ite (decide (i4.tmod 2 = 0)) (.chk ((0 : Int) ≤ (8 : Int)) (.chk ((0 : Int) ≤ (62 : Int)) (.ite (decide (0 < (IntKind.u64.wrap (i5 + IntKind.u64.wrap (IntKind.u64.wrap (↑y6.toNat : Int) * 2 ^ 8))).fdiv (2 ^ 62))) (.get (f90 (IntKind.u64.wrap (i5 + IntKind.u64.wrap (IntKind.u64.wrap (↑y6.toNat : Int) * 2 ^ 8)))) fun (y7 : Int) => (.ret (.inl (.h0 (a0) (IntKind.i64.wrap (i4 + 1)) (IntKind.u64.wrap y7)))))
  (.ret (.inl (.h0 (a0) (IntKind.i64.wrap (i4 + 1)) (IntKind.u64.wrap (i5 + IntKind.u64.wrap (IntKind.u64.wrap (↑y6.toNat : Int) * 2 ^ 8)))))))))
  (.chk ((0 : Int) ≤ (62 : Int)) (.ite (decide (0 < (IntKind.u64.wrap (i5 + IntKind.u64.wrap (↑y6.toNat : Int))).fdiv (2 ^ 62))) (.get (f90 (IntKind.u64.wrap (i5 + IntKind.u64.wrap (↑y6.toNat : Int)))) fun (y8 : Int) => (.ret (.inl (.h0 (a0) (IntKind.i64.wrap (i4 + 1)) (IntKind.u64.wrap y8)))))
  (.ret (.inl (.h0 (a0) (IntKind.i64.wrap (i4 + 1)) (IntKind.u64.wrap (i5 + IntKind.u64.wrap (↑y6.toNat : Int))))))))))))
  (.get (f90 i5) fun (y9 : Int) => (.ret (.inr (IntKind.i64.wrap (IntKind.u16.wrap (↑(BitVec.ofInt 16 (if IntKind.u16.signed = Bool.true then -1 else IntKind.u16.max) ^^^ BitVec.ofInt 16 y9).toNat : Int)))))))
theorem E79 : ∀ s, headC C tab knActG1_90 i79.rs H79 (.i .i64) 5000 (m79 s) = (g79 s).map (Sum.map m79 (fun (r : Int) => (((.i .i64 (r))) : SV Th)))
  | .h0 (a0) (i4) (i5) => by kernel_rfl
noncomputable def s79 (a0 : List UInt8) : Cm (L79 ⊕ Int) :=
  (.ret (.inl (.h0 (a0) (0) (0))))
theorem ES79 (y : ATup Th [.s]) : startC C tab knActG1_90 i79 H79 (.i .i64) 5000 (encAs G [.s] y) = (s79 (y.1)).map (Sum.map m79 (fun (r : Int) => (((.i .i64 (r))) : SV Th))) := by kernel_rfl
noncomputable def f79 (a0 : List UInt8) : Option (Int) := runO g79 (s79 (a0))
theorem Q79 (y : ATup Th [.s]) (r : Int) (h : f79 (y.1) = some r) : PCall Try.prog C 79 (encAs G [.s] y) (· = (fun (r : Int) => (((.i .i64 (r))) : SV Th)) r) := runO_sound gok.ok koActG1_90 tabKnows E79 k79 rfl (by kernel_rfl) (by kernel_rfl) (ES79 y) h
noncomputable def knActG1_79 : KnownF Th := (79, knG G [.s] fun y => .get (f79 (y.1)) fun r => .ret ((fun (r : Int) => (((.i .i64 (r))) : SV Th)) r)) :: knActG1_90
theorem koActG1_79 : KnownOk Try.prog C knActG1_79 := KnownOk.add gok koActG1_90 (known_opt (enc := fun (r : Int) => (((.i .i64 (r))) : SV Th)) Q79 (fun _ => rfl))
-- 54 drover/frame.summed
noncomputable def u54 (a0 : Packet) : Cm (frame_sums) :=
  (.get (f77 a0 { head := 0, part := 0 }) fun (y0 : List UInt8) => (.get (f78 a0 (↑y0.length : Int) { head := (0 : Int), part := (0 : Int) }) fun (y1 : List UInt8) => (.get (f79 y1) fun (y2 : Int) => (.get (f76 (IntKind.u64.wrap a0.Src) 4) fun (y3 : List UInt8) => (.get (f76 (IntKind.u64.wrap a0.Dst) 4) fun (y4 : List UInt8) => (.chk (y3.length + y4.length ≤ (9223372036854775807 : Nat)) (.get (f76 (IntKind.u64.wrap a0.Proto) 2) fun (y5 : List UInt8) => (.chk ((y3 ++ y4).length + y5.length ≤ (9223372036854775807 : Nat)) (.get (f76 (IntKind.u64.wrap (↑y0.length : Int)) (2 : Int)) fun (y6 : List UInt8) => (.chk ((y3 ++ y4 ++ y5).length + y6.length ≤ (9223372036854775807 : Nat)) (.chk ((y3 ++ y4 ++ y5 ++ y6).length + y0.length ≤ (9223372036854775807 : Nat)) (.get (f79 (y3 ++ y4 ++ y5 ++ y6 ++ y0)) fun (y7 : Int) => (.ite (decide (a0.Proto = 17)) (.ite (decide (y7 = 0)) (.ret ⟨(y2), (65535)⟩)
  (.ret ⟨(y2), (y7)⟩))
  (.ret ⟨(y2), (y7)⟩))))))))))))))
noncomputable def f54 (a0 : Packet) : Option (frame_sums) := (u54 (a0)).opt
theorem E54 (y : ATup Th [.t 39]) : startC C tab knActG1_79 i54 [] (.agg [.i .i64, .i .i64]) 5000 (encAs G [.t 39] y) = (u54 (y.1)).map (fun r => .inr ((fun (r : frame_sums) => (((.agg (cellsG (G.ty 88) (G.to 88 (r))))) : SV Th)) r)) := by kernel_rfl
theorem Q54 (y : ATup Th [.t 39]) (r : frame_sums) (h : f54 (y.1) = some r) : PCall Try.prog C 54 (encAs G [.t 39] y) (· = (fun (r : frame_sums) => (((.agg (cellsG (G.ty 88) (G.to 88 (r))))) : SV Th)) r) := one_sound gok.ok koActG1_79 tabKnows k54 (by kernel_rfl) (by kernel_rfl) (E54 y) (Cm.den_opt h rfl)
noncomputable def knActG1_54 : KnownF Th := (54, knG G [.t 39] fun y => .get (f54 (y.1)) fun r => .ret ((fun (r : frame_sums) => (((.agg (cellsG (G.ty 88) (G.to 88 (r))))) : SV Th)) r)) :: knActG1_79
theorem koActG1_54 : KnownOk Try.prog C knActG1_54 := KnownOk.add gok koActG1_79 (known_opt (enc := fun (r : Go.Proofs.Act.frame_sums) => (((.agg (cellsG (G.ty 88) (G.to 88 (r))))) : SV Th)) Q54 (fun _ => rfl))
-- 24 drover/frame.Bytes
noncomputable def u24 (a0 : Packet) : Cm ((List UInt8) × Int) :=
  (.get (f52 a0) fun (y0 : Bool) => (.ite (!y0) (.ret (([]), (1)))
  (.ite (decide ((1500 : Int) < (↑a0.Data.length : Int))) (.ret (([]), (44)))
  (.get (f54 a0) fun (y1 : frame_sums) => (.get (f53 a0 y1) fun (y2 : List UInt8) => (.ite (decide ((1500 : Int) < (↑y2.length : Int))) (.ret (([]), (44)))
  (.ret ((y2), (0)))))))))
noncomputable def f24 (a0 : Packet) : Option ((List UInt8) × Int) := (u24 (a0)).opt
theorem E24 (y : ATup Th [.t 39]) : startC C tab knActG1_54 i24 [] (.tup [.s, (.i .i64)]) 5000 (encAs G [.t 39] y) = (u24 (y.1)).map (fun r => .inr ((fun (r : (List UInt8) × Int) => (((.tup [(.s (r.1)), (.i .i64 (r.2))])) : SV Th)) r)) := by kernel_rfl
theorem Q24 (y : ATup Th [.t 39]) (r : (List UInt8) × Int) (h : f24 (y.1) = some r) : PCall Try.prog C 24 (encAs G [.t 39] y) (· = (fun (r : (List UInt8) × Int) => (((.tup [(.s (r.1)), (.i .i64 (r.2))])) : SV Th)) r) := one_sound gok.ok koActG1_54 tabKnows k24 (by kernel_rfl) (by kernel_rfl) (E24 y) (Cm.den_opt h rfl)
noncomputable def knActG1_24 : KnownF Th := (24, knG G [.t 39] fun y => .get (f24 (y.1)) fun r => .ret ((fun (r : (List UInt8) × Int) => (((.tup [(.s (r.1)), (.i .i64 (r.2))])) : SV Th)) r)) :: knActG1_54
theorem koActG1_24 : KnownOk Try.prog C knActG1_24 := KnownOk.add gok koActG1_54 (known_opt (enc := fun (r : (List UInt8) × Int) => (((.tup [(.s (r.1)), (.i .i64 (r.2))])) : SV Th)) Q24 (fun _ => rfl))
-- 91 math/bits.Mul32
noncomputable def u91 (a0 : Int) (a1 : Int) : Cm (Int × Int) :=
  (.chk ((0 : Int) ≤ (32 : Int)) (.ret ((IntKind.u32.wrap ((IntKind.u64.wrap (IntKind.u64.wrap a0 * IntKind.u64.wrap a1)).fdiv (2 ^ 32))), (IntKind.u32.wrap (IntKind.u64.wrap (IntKind.u64.wrap a0 * IntKind.u64.wrap a1))))))
noncomputable def f91 (a0 : Int) (a1 : Int) : Option (Int × Int) := (u91 (a0) (a1)).opt
theorem E91 (y : ATup Th [.i .u32, .i .u32]) : startC C tab knActG1_24 i91 [] (.tup [(.i .u32), (.i .u32)]) 5000 (encAs G [.i .u32, .i .u32] y) = (u91 (y.1) (y.2.1)).map (fun r => .inr ((fun (r : Int × Int) => (((.tup [(.i .u32 (r.1)), (.i .u32 (r.2))])) : SV Th)) r)) := by kernel_rfl
theorem Q91 (y : ATup Th [.i .u32, .i .u32]) (r : Int × Int) (h : f91 (y.1) (y.2.1) = some r) : PCall Try.prog C 91 (encAs G [.i .u32, .i .u32] y) (· = (fun (r : Int × Int) => (((.tup [(.i .u32 (r.1)), (.i .u32 (r.2))])) : SV Th)) r) := one_sound gok.ok koActG1_24 tabKnows k91 (by kernel_rfl) (by kernel_rfl) (E91 y) (Cm.den_opt h rfl)
noncomputable def knActG1_91 : KnownF Th := (91, knG G [.i .u32, .i .u32] fun y => .get (f91 (y.1) (y.2.1)) fun r => .ret ((fun (r : Int × Int) => (((.tup [(.i .u32 (r.1)), (.i .u32 (r.2))])) : SV Th)) r)) :: knActG1_24
theorem koActG1_91 : KnownOk Try.prog C knActG1_91 := KnownOk.add gok koActG1_24 (known_opt (enc := fun (r : Int × Int) => (((.tup [(.i .u32 (r.1)), (.i .u32 (r.2))])) : SV Th)) Q91 (fun _ => rfl))
-- 92 math/bits.Mul64
noncomputable def u92 (a0 : Int) (a1 : Int) : Cm (Int × Int) :=
  (.chk ((0 : Int) ≤ (32 : Int)) (.chk ((0 : Int) ≤ (32 : Int)) (.chk ((0 : Int) ≤ (32 : Int)) (.chk ((0 : Int) ≤ (32 : Int)) (.chk ((0 : Int) ≤ (32 : Int)) (.ret ((IntKind.u64.wrap (IntKind.u64.wrap (IntKind.u64.wrap (a0.fdiv (2 ^ 32) * a1.fdiv (2 ^ 32)) + (IntKind.u64.wrap (IntKind.u64.wrap (a0.fdiv (2 ^ 32) * IntKind.u64.wrap (↑(BitVec.ofInt 64 a1 &&& BitVec.ofInt 64 4294967295).toNat : Int)) + (IntKind.u64.wrap (IntKind.u64.wrap (↑(BitVec.ofInt 64 a0 &&& BitVec.ofInt 64 4294967295).toNat : Int) * IntKind.u64.wrap (↑(BitVec.ofInt 64 a1 &&& BitVec.ofInt 64 4294967295).toNat : Int))).fdiv (2 ^ 32))).fdiv (2 ^ 32)) + (IntKind.u64.wrap (IntKind.u64.wrap (↑(BitVec.ofInt 64 (IntKind.u64.wrap (IntKind.u64.wrap (a0.fdiv (2 ^ 32) * IntKind.u64.wrap (↑(BitVec.ofInt 64 a1 &&& BitVec.ofInt 64 4294967295).toNat : Int)) + (IntKind.u64.wrap (IntKind.u64.wrap (↑(BitVec.ofInt 64 a0 &&& BitVec.ofInt 64 4294967295).toNat : Int) * IntKind.u64.wrap (↑(BitVec.ofInt 64 a1 &&& BitVec.ofInt 64 4294967295).toNat : Int))).fdiv (2 ^ 32))) &&& BitVec.ofInt 64 4294967295).toNat : Int) + IntKind.u64.wrap (IntKind.u64.wrap (↑(BitVec.ofInt 64 a0 &&& BitVec.ofInt 64 4294967295).toNat : Int) * a1.fdiv (2 ^ 32)))).fdiv (2 ^ 32))), (IntKind.u64.wrap (a0 * a1)))))))))
noncomputable def f92 (a0 : Int) (a1 : Int) : Option (Int × Int) := (u92 (a0) (a1)).opt
theorem E92 (y : ATup Th [.i .u64, .i .u64]) : startC C tab knActG1_91 i92 [] (.tup [(.i .u64), (.i .u64)]) 5000 (encAs G [.i .u64, .i .u64] y) = (u92 (y.1) (y.2.1)).map (fun r => .inr ((fun (r : Int × Int) => (((.tup [(.i .u64 (r.1)), (.i .u64 (r.2))])) : SV Th)) r)) := by kernel_rfl
theorem Q92 (y : ATup Th [.i .u64, .i .u64]) (r : Int × Int) (h : f92 (y.1) (y.2.1) = some r) : PCall Try.prog C 92 (encAs G [.i .u64, .i .u64] y) (· = (fun (r : Int × Int) => (((.tup [(.i .u64 (r.1)), (.i .u64 (r.2))])) : SV Th)) r) := one_sound gok.ok koActG1_91 tabKnows k92 (by kernel_rfl) (by kernel_rfl) (E92 y) (Cm.den_opt h rfl)
noncomputable def knActG1_92 : KnownF Th := (92, knG G [.i .u64, .i .u64] fun y => .get (f92 (y.1) (y.2.1)) fun r => .ret ((fun (r : Int × Int) => (((.tup [(.i .u64 (r.1)), (.i .u64 (r.2))])) : SV Th)) r)) :: knActG1_91
theorem koActG1_92 : KnownOk Try.prog C knActG1_92 := KnownOk.add gok koActG1_91 (known_opt (enc := fun (r : Int × Int) => (((.tup [(.i .u64 (r.1)), (.i .u64 (r.2))])) : SV Th)) Q92 (fun _ => rfl))
-- 82 math/bits.Mul
noncomputable def u82 (a0 : Int) (a1 : Int) : Cm (Int × Int) :=
  (.get (f92 a0 a1) fun (y0 : Int × Int) => (.ret ((y0.fst), (y0.snd))))
noncomputable def f82 (a0 : Int) (a1 : Int) : Option (Int × Int) := (u82 (a0) (a1)).opt
theorem E82 (y : ATup Th [.i .u64, .i .u64]) : startC C tab knActG1_92 i82 [] (.tup [(.i .u64), (.i .u64)]) 5000 (encAs G [.i .u64, .i .u64] y) = (u82 (y.1) (y.2.1)).map (fun r => .inr ((fun (r : Int × Int) => (((.tup [(.i .u64 (r.1)), (.i .u64 (r.2))])) : SV Th)) r)) := by kernel_rfl
theorem Q82 (y : ATup Th [.i .u64, .i .u64]) (r : Int × Int) (h : f82 (y.1) (y.2.1) = some r) : PCall Try.prog C 82 (encAs G [.i .u64, .i .u64] y) (· = (fun (r : Int × Int) => (((.tup [(.i .u64 (r.1)), (.i .u64 (r.2))])) : SV Th)) r) := one_sound gok.ok koActG1_92 tabKnows k82 (by kernel_rfl) (by kernel_rfl) (E82 y) (Cm.den_opt h rfl)
noncomputable def knActG1_82 : KnownF Th := (82, knG G [.i .u64, .i .u64] fun y => .get (f82 (y.1) (y.2.1)) fun r => .ret ((fun (r : Int × Int) => (((.tup [(.i .u64 (r.1)), (.i .u64 (r.2))])) : SV Th)) r)) :: knActG1_92
theorem koActG1_82 : KnownOk Try.prog C knActG1_82 := KnownOk.add gok koActG1_92 (known_opt (enc := fun (r : Int × Int) => (((.tup [(.i .u64 (r.1)), (.i .u64 (r.2))])) : SV Th)) Q82 (fun _ => rfl))
-- 93 internal/stringslite.HasPrefix
noncomputable def u93 (a0 : List UInt8) (a1 : List UInt8) : Cm (Bool) :=
  (.ite (decide ((↑a1.length : Int) ≤ (↑a0.length : Int))) (.chk ((0 : Int) ≤ (↑a1.length : Int) ∧ (↑a1.length : Int) ≤ (↑a0.length : Int)) (.ret (decide (List.drop (0 : Nat) (List.take (↑a1.length : Int).toNat a0) = a1))))
  (.ret (Bool.false)))
noncomputable def f93 (a0 : List UInt8) (a1 : List UInt8) : Option (Bool) := (u93 (a0) (a1)).opt
theorem E93 (y : ATup Th [.s, .s]) : startC C tab knActG1_82 i93 [] .b 5000 (encAs G [.s, .s] y) = (u93 (y.1) (y.2.1)).map (fun r => .inr ((fun (r : Bool) => (((.b (r))) : SV Th)) r)) := by kernel_rfl
theorem Q93 (y : ATup Th [.s, .s]) (r : Bool) (h : f93 (y.1) (y.2.1) = some r) : PCall Try.prog C 93 (encAs G [.s, .s] y) (· = (fun (r : Bool) => (((.b (r))) : SV Th)) r) := one_sound gok.ok koActG1_82 tabKnows k93 (by kernel_rfl) (by kernel_rfl) (E93 y) (Cm.den_opt h rfl)
noncomputable def knActG1_93 : KnownF Th := (93, knG G [.s, .s] fun y => .get (f93 (y.1) (y.2.1)) fun r => .ret ((fun (r : Bool) => (((.b (r))) : SV Th)) r)) :: knActG1_82
theorem koActG1_93 : KnownOk Try.prog C knActG1_93 := KnownOk.add gok koActG1_82 (known_opt (enc := fun (r : Bool) => (((.b (r))) : SV Th)) Q93 (fun _ => rfl))
-- 83 strings.HasPrefix
noncomputable def u83 (a0 : List UInt8) (a1 : List UInt8) : Cm (Bool) :=
  (.get (f93 a0 a1) fun (y0 : Bool) => (.ret (y0)))
noncomputable def f83 (a0 : List UInt8) (a1 : List UInt8) : Option (Bool) := (u83 (a0) (a1)).opt
theorem E83 (y : ATup Th [.s, .s]) : startC C tab knActG1_93 i83 [] .b 5000 (encAs G [.s, .s] y) = (u83 (y.1) (y.2.1)).map (fun r => .inr ((fun (r : Bool) => (((.b (r))) : SV Th)) r)) := by kernel_rfl
theorem Q83 (y : ATup Th [.s, .s]) (r : Bool) (h : f83 (y.1) (y.2.1) = some r) : PCall Try.prog C 83 (encAs G [.s, .s] y) (· = (fun (r : Bool) => (((.b (r))) : SV Th)) r) := one_sound gok.ok koActG1_93 tabKnows k83 (by kernel_rfl) (by kernel_rfl) (E83 y) (Cm.den_opt h rfl)
noncomputable def knActG1_83 : KnownF Th := (83, knG G [.s, .s] fun y => .get (f83 (y.1) (y.2.1)) fun r => .ret ((fun (r : Bool) => (((.b (r))) : SV Th)) r)) :: knActG1_93
theorem koActG1_83 : KnownOk Try.prog C knActG1_83 := KnownOk.add gok koActG1_93 (known_opt (enc := fun (r : Bool) => (((.b (r))) : SV Th)) Q83 (fun _ => rfl))
-- 29 drover/act.laid
noncomputable def u29 (a0 : Action) : Cm ((List UInt8)) :=
  (.ite (decide (a0.Kind = 1)) (.get (f57 0 2) fun (y0 : List UInt8) => (.get (f57 16 2) fun (y1 : List UInt8) => (.chk (y0.length + y1.length ≤ (9223372036854775807 : Nat)) (.get (f57 a0.Value 4) fun (y2 : List UInt8) => (.chk ((y0 ++ y1).length + y2.length ≤ (9223372036854775807 : Nat)) (.chk ((y0 ++ y1 ++ y2).length + [(255 : UInt8), (255 : UInt8)].length ≤ (9223372036854775807 : Nat)) (.get (f57 0 6) fun (y3 : List UInt8) => (.chk ((y0 ++ y1 ++ y2 ++ [(255 : UInt8), (255 : UInt8)]).length + y3.length ≤ (9223372036854775807 : Nat)) (.ret (y0 ++ y1 ++ y2 ++ [(255 : UInt8), (255 : UInt8)] ++ y3))))))))))
  (.ite (decide (a0.Kind = 2)) (.get (f57 22 2) fun (y4 : List UInt8) => (.get (f57 8 2) fun (y5 : List UInt8) => (.chk (y4.length + y5.length ≤ (9223372036854775807 : Nat)) (.get (f57 a0.Value 4) fun (y6 : List UInt8) => (.chk ((y4 ++ y5).length + y6.length ≤ (9223372036854775807 : Nat)) (.ret (y4 ++ y5 ++ y6)))))))
  (.ite (decide (a0.Kind = 3)) (.get (f57 17 2) fun (y7 : List UInt8) => (.get (f57 8 2) fun (y8 : List UInt8) => (.chk (y7.length + y8.length ≤ (9223372036854775807 : Nat)) (.chk ((y7 ++ y8).length + [(129 : UInt8), (0 : UInt8), (0 : UInt8), (0 : UInt8)].length ≤ (9223372036854775807 : Nat)) (.ret (y7 ++ y8 ++ [(129 : UInt8), (0 : UInt8), (0 : UInt8), (0 : UInt8)]))))))
  (.ite (decide (a0.Kind = 4)) (.get (f57 18 2) fun (y9 : List UInt8) => (.get (f57 8 2) fun (y10 : List UInt8) => (.chk (y9.length + y10.length ≤ (9223372036854775807 : Nat)) (.get (f57 0 4) fun (y11 : List UInt8) => (.chk ((y9 ++ y10).length + y11.length ≤ (9223372036854775807 : Nat)) (.ret (y9 ++ y10 ++ y11)))))))
  (.get (f57 25 2) fun (y12 : List UInt8) => (.get (f57 16 2) fun (y13 : List UInt8) => (.chk (y12.length + y13.length ≤ (9223372036854775807 : Nat)) (.chk ((y12 ++ y13).length + [(128 : UInt8), (0 : UInt8)].length ≤ (9223372036854775807 : Nat)) (.get (f57 (IntKind.u64.wrap (2 * (f32 a0.Field).fst)) 1) fun (y14 : List UInt8) => (.chk ((y12 ++ y13 ++ [(128 : UInt8), (0 : UInt8)]).length + y14.length ≤ (9223372036854775807 : Nat)) (.get (f57 (IntKind.u64.wrap (f32 a0.Field).snd) 1) fun (y15 : List UInt8) => (.chk ((y12 ++ y13 ++ [(128 : UInt8), (0 : UInt8)] ++ y14).length + y15.length ≤ (9223372036854775807 : Nat)) (.get (f57 a0.Value (f32 a0.Field).snd) fun (y16 : List UInt8) => (.chk ((y12 ++ y13 ++ [(128 : UInt8), (0 : UInt8)] ++ y14 ++ y15).length + y16.length ≤ (9223372036854775807 : Nat)) (.get (f58 [(0 : UInt8)] (IntKind.i64.wrap ((16 : Int) - (↑(y12 ++ y13 ++ [(128 : UInt8), (0 : UInt8)] ++ y14 ++ y15 ++ y16).length : Int)))) fun (y17 : List UInt8) => (.chk ((y12 ++ y13 ++ [(128 : UInt8), (0 : UInt8)] ++ y14 ++ y15 ++ y16).length + y17.length ≤ (9223372036854775807 : Nat)) (.ret (y12 ++ y13 ++ [(128 : UInt8), (0 : UInt8)] ++ y14 ++ y15 ++ y16 ++ y17))))))))))))))))))
noncomputable def f29 (a0 : Action) : Option ((List UInt8)) := (u29 (a0)).opt
theorem E29 (y : ATup Th [.t 31]) : startC C tab knActG1_83 i29 [] .s 5000 (encAs G [.t 31] y) = (u29 (y.1)).map (fun r => .inr ((fun (r : (List UInt8)) => (((.s (r))) : SV Th)) r)) := by kernel_rfl
theorem Q29 (y : ATup Th [.t 31]) (r : (List UInt8)) (h : f29 (y.1) = some r) : PCall Try.prog C 29 (encAs G [.t 31] y) (· = (fun (r : (List UInt8)) => (((.s (r))) : SV Th)) r) := one_sound gok.ok koActG1_83 tabKnows k29 (by kernel_rfl) (by kernel_rfl) (E29 y) (Cm.den_opt h rfl)
noncomputable def knActG1_29 : KnownF Th := (29, knG G [.t 31] fun y => .get (f29 (y.1)) fun r => .ret ((fun (r : (List UInt8)) => (((.s (r))) : SV Th)) r)) :: knActG1_83
theorem koActG1_29 : KnownOk Try.prog C knActG1_29 := KnownOk.add gok koActG1_83 (known_opt (enc := fun (r : (List UInt8)) => (((.s (r))) : SV Th)) Q29 (fun _ => rfl))
-- 12 drover/act.Encode
def H12 : List (List Nat × Hint) := [([19010, 1000007, 1000009], ⟨[8, 0, 1, 7], [[], [0]], [], [], [], [], [], 0⟩),
  ([25018], ⟨[16, 4, 14, 15], [], [], [], [], [], [(4, 1)], 0⟩)]
inductive L12 where
  | h0 (a0 : List Action) (i2 : Int)
  | h1 (a0 : List Action) (i5 : Int) (n6 : Nat) (l7 : List Int)
noncomputable def m12 : L12 → Trip Th
  | .h0 (a0) (i2) => ([(.lp 19 c55_5), (.blk 0), (.seq 19 c55_7), (.cal [] (.some 7) [(.tmp 4)]), (.ops 9 c26_0), (.seq 9 Go.Ab.ACode.ret), (.cal [(0, (.lst 31 (a0)))] (.some 9) [(.tmp 4)]), (.ops 25 c12_0), (.seq 25 c12_2), (.blk 0), (.seq 25 c12_13)], [(8, (.i .i64 (i2))), (0, (.lst 31 (a0))), (1, (.fn 27 [])), (7, (.i .i64 ((↑a0.length : Int))))], [])
  | .h1 (a0) (i5) (n6) (l7) => ([(.lp 25 c12_8), (.blk 1), (.seq 25 c12_11)], [(16, (.i .i64 (i5))), (4, (.ptr 0 0)), (14, (.lst 31 (a0))), (15, (.i .i64 ((↑a0.length : Int))))], [(.box [(.self 0), (.bl 5 1 (n6))]), (.arr 5 (l7)), (.tag 0 58), (.tag 1 5)])
noncomputable def g12 : L12 → Cm (L12 ⊕ (List UInt8) × Int)
  | .h0 (a0) (i2) => (.ite (decide (i2 < (↑a0.length : Int))) (.chk ((0 : Int) ≤ i2) (.get (a0[i2.toNat]?) fun (y8 : Action) => (.get (f27 y8) fun (y9 : Bool) => (.ite (y9) (.ite (decide (0 ≤ i2)) (.ret (.inr (([]), (22))))
  (.ite (decide ((32 : Int) < (↑a0.length : Int))) (.ret (.inr (([]), (44))))
  (.chk (@Eq Nat (@OfNat.ofNat Nat (nat_lit 0) (instOfNatNat (nat_lit 0))) (@List.length Int (@List.nil Int))) (.ret (.inl (.h1 (a0) (0) (0) ([])))))))
  (.ret (.inl (.h0 (a0) (IntKind.i64.wrap (i2 + 1)))))))))
  (.ite (decide ((0 : Int) ≤ (-1 : Int))) (.ret (.inr (([]), (22))))
  (.ite (decide ((32 : Int) < (↑a0.length : Int))) (.ret (.inr (([]), (44))))
  (.chk (@Eq Nat (@OfNat.ofNat Nat (nat_lit 0) (instOfNatNat (nat_lit 0))) (@List.length Int (@List.nil Int))) (.ret (.inl (.h1 (a0) (0) (0) ([]))))))))
  | .h1 (a0) (i5) (n6) (l7) => (.ite (decide (i5 < (↑a0.length : Int))) (.chk ((0 : Int) ≤ i5) (.get (a0[i5.toNat]?) fun (y10 : Action) => (.get (f29 y10) fun (y11 : List UInt8) => (.chk (n6 = l7.length ∧ (n6 + (List.filterMap (fun (b : UInt8) => Option.some (↑b.toNat : Int)) y11).length) * (1 : Nat) ≤ nat_lit 140737488355328 ∧ n6 + (List.filterMap (fun (b : UInt8) => Option.some (↑b.toNat : Int)) y11).length ≤ nat_lit 140737488355328) (.chk ((l7 ++ List.filterMap (fun (b : UInt8) => Option.some (↑b.toNat : Int)) y11).length = (l7 ++ List.filterMap (fun (b : UInt8) => Option.some (↑b.toNat : Int)) y11).length) (.ret (.inl (.h1 (a0) (IntKind.i64.wrap (i5 + 1)) ((l7 ++ List.filterMap (fun (b : UInt8) => Option.some (↑b.toNat : Int)) y11).length) (l7 ++ List.filterMap (fun (b : UInt8) => Option.some (↑b.toNat : Int)) y11)))))))))
  (.chk (n6 = l7.length) (.chk ((↑n6 : Int) = (↑l7.length : Int) ∧ l7.length < (4611686018427387904 : Nat)) (.ret (.inr ((List.map (fun (x : Int) => UInt8.ofNat x.toNat) l7), (0)))))))
theorem E12 : ∀ s, headC C tab knActG1_29 i12.rs H12 (.tup [.s, (.i .i64)]) 5000 (m12 s) = (g12 s).map (Sum.map m12 (fun (r : (List UInt8) × Int) => (((.tup [(.s (r.1)), (.i .i64 (r.2))])) : SV Th)))
  | .h0 (a0) (i2) => by kernel_rfl
  | .h1 (a0) (i5) (n6) (l7) => by kernel_rfl
noncomputable def s12 (a0 : List Action) : Cm (L12 ⊕ (List UInt8) × Int) :=
  (.ret (.inl (.h0 (a0) (0))))
theorem ES12 (y : ATup Th [.l 31]) : startC C tab knActG1_29 i12 H12 (.tup [.s, (.i .i64)]) 5000 (encAs G [.l 31] y) = (s12 (y.1)).map (Sum.map m12 (fun (r : (List UInt8) × Int) => (((.tup [(.s (r.1)), (.i .i64 (r.2))])) : SV Th))) := by kernel_rfl
noncomputable def f12 (a0 : List Action) : Option ((List UInt8) × Int) := runO g12 (s12 (a0))
theorem Q12 (y : ATup Th [.l 31]) (r : (List UInt8) × Int) (h : f12 (y.1) = some r) : PCall Try.prog C 12 (encAs G [.l 31] y) (· = (fun (r : (List UInt8) × Int) => (((.tup [(.s (r.1)), (.i .i64 (r.2))])) : SV Th)) r) := runO_sound gok.ok koActG1_29 tabKnows E12 k12 rfl (by kernel_rfl) (by kernel_rfl) (ES12 y) h
noncomputable def knActG1_12 : KnownF Th := (12, knG G [.l 31] fun y => .get (f12 (y.1)) fun r => .ret ((fun (r : (List UInt8) × Int) => (((.tup [(.s (r.1)), (.i .i64 (r.2))])) : SV Th)) r)) :: knActG1_29
theorem koActG1_12 : KnownOk Try.prog C knActG1_12 := KnownOk.add gok koActG1_29 (known_opt (enc := fun (r : (List UInt8) × Int) => (((.tup [(.s (r.1)), (.i .i64 (r.2))])) : SV Th)) Q12 (fun _ => rfl))
-- 22 drover/act.Decode
def H22 : List (List Nat × Hint) := [([54008], ⟨[0, 4], [], [(4, 31)], [], [], [4], [], 0⟩)]
inductive L22 where
  | h0 (l11 : List UInt8) (l13 : List Action)
noncomputable def m22 : L22 → Trip Th
  | .h0 (l11) (l13) => ([(.lp 54 c22_14), (.blk 0), (.seq 54 c22_15)], [(0, (.s (l11))), (4, (.sl 31 0 0 (l13.length) .none))], [(.arr 31 (l13))])
noncomputable def g22 : L22 → Cm (L22 ⊕ (List Action) × Int)
  | .h0 (l11) (l13) => (.ite (!decide (l11 = [])) (.ite (decide ((↑l11.length : Int) < (4 : Int))) (.ret (.inr (([]), (10))))
  (.chk ((0 : Int) ≤ (2 : Int)) (.get (l11[(2 : Nat)]?) fun (y14 : UInt8) => (.chk ((0 : Int) ≤ (8 : Int)) (.chk ((0 : Int) ≤ (3 : Int)) (.get (l11[(3 : Nat)]?) fun (y15 : UInt8) => (.ite (decide ((↑l11.length : Int) < IntKind.i64.wrap (↑(BitVec.ofInt (64 : Nat) (IntKind.i64.wrap (IntKind.i64.wrap (↑y14.toNat : Int) * (2 : Int) ^ (8 : Nat))) ||| BitVec.ofInt (64 : Nat) (IntKind.i64.wrap (↑y15.toNat : Int))).toNat : Int))) (.ret (.inr (([]), (10))))
  (.ite (decide (IntKind.i64.wrap (↑(BitVec.ofInt 64 (IntKind.i64.wrap (IntKind.i64.wrap (↑y14.toNat : Int) * 2 ^ 8)) ||| BitVec.ofInt 64 (IntKind.i64.wrap (↑y15.toNat : Int))).toNat : Int) < 8)) (.ret (.inr (([]), (11))))
  (.chk ((0 : Int) ≤ IntKind.i64.wrap (↑(BitVec.ofInt (64 : Nat) (IntKind.i64.wrap (IntKind.i64.wrap (↑y14.toNat : Int) * (2 : Int) ^ (8 : Nat))) ||| BitVec.ofInt (64 : Nat) (IntKind.i64.wrap (↑y15.toNat : Int))).toNat : Int) ∧ IntKind.i64.wrap (↑(BitVec.ofInt (64 : Nat) (IntKind.i64.wrap (IntKind.i64.wrap (↑y14.toNat : Int) * (2 : Int) ^ (8 : Nat))) ||| BitVec.ofInt (64 : Nat) (IntKind.i64.wrap (↑y15.toNat : Int))).toNat : Int) ≤ (↑l11.length : Int)) (.get (f49 (List.drop (0 : Nat) (List.take (IntKind.i64.wrap (↑(BitVec.ofInt (64 : Nat) (IntKind.i64.wrap (IntKind.i64.wrap (↑y14.toNat : Int) * (2 : Int) ^ (8 : Nat))) ||| BitVec.ofInt (64 : Nat) (IntKind.i64.wrap (↑y15.toNat : Int))).toNat : Int)).toNat l11))) fun (y16 : Action) => (.get (f14 y16) fun (y17 : Bool) => (.ite (!y17) (.ret (.inr (([]), (11))))
  (.get (f29 y16) fun (y18 : List UInt8) => (.chk ((0 : Int) ≤ IntKind.i64.wrap (↑(BitVec.ofInt (64 : Nat) (IntKind.i64.wrap (IntKind.i64.wrap (↑y14.toNat : Int) * (2 : Int) ^ (8 : Nat))) ||| BitVec.ofInt (64 : Nat) (IntKind.i64.wrap (↑y15.toNat : Int))).toNat : Int) ∧ IntKind.i64.wrap (↑(BitVec.ofInt (64 : Nat) (IntKind.i64.wrap (IntKind.i64.wrap (↑y14.toNat : Int) * (2 : Int) ^ (8 : Nat))) ||| BitVec.ofInt (64 : Nat) (IntKind.i64.wrap (↑y15.toNat : Int))).toNat : Int) ≤ (↑l11.length : Int)) (.ite (!decide (y18 = List.drop (0 : Nat) (List.take (IntKind.i64.wrap (↑(BitVec.ofInt (64 : Nat) (IntKind.i64.wrap (IntKind.i64.wrap (↑y14.toNat : Int) * (2 : Int) ^ (8 : Nat))) ||| BitVec.ofInt (64 : Nat) (IntKind.i64.wrap (↑y15.toNat : Int))).toNat : Int)).toNat l11))) (.ret (.inr (([]), (11))))
  (.ite (decide ((↑l13.length : Int) = (32 : Int))) (.ret (.inr (([]), (44))))
  (.chk ((1 : Nat) ≤ [y16].length) (.chk (l13.length = l13.length ∧ (l13.length + (List.take (1 : Nat) (List.drop (0 : Nat) [y16])).length) * (24 : Nat) ≤ nat_lit 140737488355328 ∧ l13.length + (List.take (1 : Nat) (List.drop (0 : Nat) [y16])).length ≤ nat_lit 140737488355328) (.chk ((0 : Int) ≤ IntKind.i64.wrap (↑(BitVec.ofInt (64 : Nat) (IntKind.i64.wrap (IntKind.i64.wrap (↑y14.toNat : Int) * (2 : Int) ^ (8 : Nat))) ||| BitVec.ofInt (64 : Nat) (IntKind.i64.wrap (↑y15.toNat : Int))).toNat : Int) ∧ IntKind.i64.wrap (↑(BitVec.ofInt (64 : Nat) (IntKind.i64.wrap (IntKind.i64.wrap (↑y14.toNat : Int) * (2 : Int) ^ (8 : Nat))) ||| BitVec.ofInt (64 : Nat) (IntKind.i64.wrap (↑y15.toNat : Int))).toNat : Int) ≤ (↑l11.length : Int)) (.chk ((l13 ++ List.take (1 : Nat) (List.drop (0 : Nat) [y16])).length = (l13 ++ List.take (1 : Nat) (List.drop (0 : Nat) [y16])).length) (.ret (.inl (.h0 (List.drop (IntKind.i64.wrap (↑(BitVec.ofInt (64 : Nat) (IntKind.i64.wrap (IntKind.i64.wrap (↑y14.toNat : Int) * (2 : Int) ^ (8 : Nat))) ||| BitVec.ofInt (64 : Nat) (IntKind.i64.wrap (↑y15.toNat : Int))).toNat : Int)).toNat (List.take l11.length l11)) (l13 ++ List.take (1 : Nat) (List.drop (0 : Nat) [y16])))))))))))))))))))))))))
  (.chk ((0 : Nat) + l13.length ≤ l13.length) (.ret (.inr ((List.take l13.length (List.drop (0 : Nat) l13)), (0))))))
theorem E22 : ∀ s, headC C tab knActG1_12 i22.rs H22 (.tup [(.lst 31), (.i .i64)]) 5000 (m22 s) = (g22 s).map (Sum.map m22 (fun (r : (List Action) × Int) => (((.tup [(.lst 31 (r.1)), (.i .i64 (r.2))])) : SV Th)))
  | .h0 (l11) (l13) => by kernel_rfl
noncomputable def s22 (a0 : List UInt8) : Cm (L22 ⊕ (List Action) × Int) :=
  (.chk (@Eq Nat (@OfNat.ofNat Nat (nat_lit 0) (instOfNatNat (nat_lit 0))) (@List.length (Th (@OfNat.ofNat Nat (nat_lit 31) (instOfNatNat (nat_lit 31)))) (@List.nil (Th (@OfNat.ofNat Nat (nat_lit 31) (instOfNatNat (nat_lit 31))))))) (.ret (.inl (.h0 (a0) ([])))))
theorem ES22 (y : ATup Th [.s]) : startC C tab knActG1_12 i22 H22 (.tup [(.lst 31), (.i .i64)]) 5000 (encAs G [.s] y) = (s22 (y.1)).map (Sum.map m22 (fun (r : (List Action) × Int) => (((.tup [(.lst 31 (r.1)), (.i .i64 (r.2))])) : SV Th))) := by kernel_rfl
noncomputable def f22 (a0 : List UInt8) : Option ((List Action) × Int) := runO g22 (s22 (a0))
theorem Q22 (y : ATup Th [.s]) (r : (List Action) × Int) (h : f22 (y.1) = some r) : PCall Try.prog C 22 (encAs G [.s] y) (· = (fun (r : (List Action) × Int) => (((.tup [(.lst 31 (r.1)), (.i .i64 (r.2))])) : SV Th)) r) := runO_sound gok.ok koActG1_12 tabKnows E22 k22 rfl (by kernel_rfl) (by kernel_rfl) (ES22 y) h
noncomputable def knActG1_22 : KnownF Th := (22, knG G [.s] fun y => .get (f22 (y.1)) fun r => .ret ((fun (r : (List Action) × Int) => (((.tup [(.lst 31 (r.1)), (.i .i64 (r.2))])) : SV Th)) r)) :: knActG1_12
theorem koActG1_22 : KnownOk Try.prog C knActG1_22 := KnownOk.add gok koActG1_12 (known_opt (enc := fun (r : (List Go.Proofs.Act.Action) × Int) => (((.tup [(.lst 31 (r.1)), (.i .i64 (r.2))])) : SV Th)) Q22 (fun _ => rfl))
-- 3 drover/droverlaw06.ActEncodes
def H3 : List (List Nat × Hint) := [([48031], ⟨[7, 0], [], [], [], [], [], [], 0⟩)]
inductive L3 where
  | h0 (a0 : List Action) (i5 : Int)
noncomputable def m3 : L3 → Trip Th
  | .h0 (a0) (i5) => ([(.lp 48 c3_9), (.blk 0), (.seq 48 c3_12)], [(7, (.i .i64 (i5))), (0, (.lst 31 (a0)))], [])
noncomputable def g3 : L3 → Cm (L3 ⊕ Bool)
  | .h0 (a0) (i5) => (.ite (decide (i5 < (↑a0.length : Int))) (.chk ((0 : Int) ≤ i5) (.get (a0[i5.toNat]?) fun (y6 : Action) => (.get (f14 y6) fun (y7 : Bool) => (.chk ((0 : Int) ≤ i5) (.get (a0[i5.toNat]?) fun (y8 : Action) => (.ite (!y7 == f15 y8) (.ret (.inr (Bool.false)))
  (.ret (.inl (.h0 (a0) (IntKind.i64.wrap (i5 + 1)))))))))))
  (.ret (.inr (Bool.true))))
theorem E3 : ∀ s, headC C tab knActG1_22 i3.rs H3 .b 5000 (m3 s) = (g3 s).map (Sum.map m3 (fun (r : Bool) => (((.b (r))) : SV Th)))
  | .h0 (a0) (i5) => by kernel_rfl
noncomputable def s3 (a0 : List Action) : Cm (L3 ⊕ Bool) :=
  (.ite (decide ((60 : Int) < (↑a0.length : Int))) (.ret (.inr (Bool.true)))
  (.get (f12 a0) fun (y0 : List UInt8 × Int) => (.get (f13 a0) fun (y1 : List UInt8 × Int) => (.ite (!decide (y0.fst = y1.fst)) (.ret (.inr (Bool.false)))
  (.ite (!decide (y0.snd = y1.snd)) (.ret (.inr (Bool.false)))
  (.ret (.inl (.h0 (a0) (0)))))))))
theorem ES3 (y : ATup Th [.l 31]) : startC C tab knActG1_22 i3 H3 .b 5000 (encAs G [.l 31] y) = (s3 (y.1)).map (Sum.map m3 (fun (r : Bool) => (((.b (r))) : SV Th))) := by kernel_rfl
noncomputable def f3 (a0 : List Action) : Option (Bool) := runO g3 (s3 (a0))
theorem Q3 (y : ATup Th [.l 31]) (r : Bool) (h : f3 (y.1) = some r) : PCall Try.prog C 3 (encAs G [.l 31] y) (· = (fun (r : Bool) => (((.b (r))) : SV Th)) r) := runO_sound gok.ok koActG1_22 tabKnows E3 k3 rfl (by kernel_rfl) (by kernel_rfl) (ES3 y) h
noncomputable def knActG1_3 : KnownF Th := (3, knG G [.l 31] fun y => .get (f3 (y.1)) fun r => .ret ((fun (r : Bool) => (((.b (r))) : SV Th)) r)) :: knActG1_22
theorem koActG1_3 : KnownOk Try.prog C knActG1_3 := KnownOk.add gok koActG1_22 (known_opt (enc := fun (r : Bool) => (((.b (r))) : SV Th)) Q3 (fun _ => rfl))
-- 6 drover/droverlaw06.ActChanges
noncomputable def u6 (a0 : field_Seen) (a1 : Action) : Cm (Bool) :=
  (.get (f20 a0 a1) fun (y0 : field_Seen) => (.get (f21 { In := a0.In, Meta := a0.Meta, P := a0.P } a1) fun (y1 : droverref04_Seen) => (.ite (decide (y0.In = y1.In) && (decide (y0.Meta = y1.Meta) && (decide (y0.P.To = y1.P.To) && (decide (y0.P.From = y1.P.From) && (decide (y0.P.Vlan = y1.P.Vlan) && (decide (y0.P.Type_ = y1.P.Type_) && (decide (y0.P.Src = y1.P.Src) && (decide (y0.P.Dst = y1.P.Dst) && (decide (y0.P.Life = y1.P.Life) && (decide (y0.P.Proto = y1.P.Proto) && (decide (y0.P.Sport = y1.P.Sport) && (decide (y0.P.Dport = y1.P.Dport) && decide (y0.P.Data = y1.P.Data))))))))))))) (.ret (Bool.true))
  (.ret (Bool.false)))))
noncomputable def f6 (a0 : field_Seen) (a1 : Action) : Option (Bool) := (u6 (a0) (a1)).opt
theorem E6 (y : ATup Th [.t 41, .t 31]) : startC C tab knActG1_3 i6 [] .b 5000 (encAs G [.t 41, .t 31] y) = (u6 (y.1) (y.2.1)).map (fun r => .inr ((fun (r : Bool) => (((.b (r))) : SV Th)) r)) := by kernel_rfl
theorem Q6 (y : ATup Th [.t 41, .t 31]) (r : Bool) (h : f6 (y.1) (y.2.1) = some r) : PCall Try.prog C 6 (encAs G [.t 41, .t 31] y) (· = (fun (r : Bool) => (((.b (r))) : SV Th)) r) := one_sound gok.ok koActG1_3 tabKnows k6 (by kernel_rfl) (by kernel_rfl) (E6 y) (Cm.den_opt h rfl)
noncomputable def knActG1_6 : KnownF Th := (6, knG G [.t 41, .t 31] fun y => .get (f6 (y.1) (y.2.1)) fun r => .ret ((fun (r : Bool) => (((.b (r))) : SV Th)) r)) :: knActG1_3
theorem koActG1_6 : KnownOk Try.prog C knActG1_6 := KnownOk.add gok koActG1_3 (known_opt (enc := fun (r : Bool) => (((.b (r))) : SV Th)) Q6 (fun _ => rfl))
-- 7 drover/droverlaw06.ActOne
noncomputable def u7 (a0 : Action) (a1 : field_Seen) : Cm (Bool) :=
  (.chk (Nat.le (1 : Nat) [a0].length) (.get (f12 (List.take (1 : Nat) (List.drop (0 : Nat) [a0]))) fun (y0 : List UInt8 × Int) => (.ite (!decide (y0.snd = (0 : Int))) (.get (f14 a0) fun (y1 : Bool) => (.ite (!y1) (.ite (decide (y0.fst = [])) (.ret (Bool.true))
  (.ret (Bool.false)))
  (.ret (Bool.false))))
  (.ite (decide (a0.Kind = 1)) (.ite (decide ((↑y0.fst.length : Int) = (16 : Int))) (.ite (!decide (a0.Kind = 1)) (.ite (!decide (a0.Kind = 2)) (.ret (Bool.true))
  (.get (f20 a1 a0) fun (y2 : field_Seen) => (.ite (decide (y2.In = a1.In) && (decide (y2.Meta = a1.Meta) && (decide (y2.P.To = a1.P.To) && (decide (y2.P.From = a1.P.From) && (decide (y2.P.Vlan = a1.P.Vlan) && (decide (y2.P.Type_ = a1.P.Type_) && (decide (y2.P.Src = a1.P.Src) && (decide (y2.P.Dst = a1.P.Dst) && (decide (y2.P.Life = a1.P.Life) && (decide (y2.P.Proto = a1.P.Proto) && (decide (y2.P.Sport = a1.P.Sport) && (decide (y2.P.Dport = a1.P.Dport) && decide (y2.P.Data = a1.P.Data))))))))))))) (.ret (Bool.true))
  (.ret (Bool.false)))))
  (.get (f20 a1 a0) fun (y3 : field_Seen) => (.ite (decide (y3.In = a1.In) && (decide (y3.Meta = a1.Meta) && (decide (y3.P.To = a1.P.To) && (decide (y3.P.From = a1.P.From) && (decide (y3.P.Vlan = a1.P.Vlan) && (decide (y3.P.Type_ = a1.P.Type_) && (decide (y3.P.Src = a1.P.Src) && (decide (y3.P.Dst = a1.P.Dst) && (decide (y3.P.Life = a1.P.Life) && (decide (y3.P.Proto = a1.P.Proto) && (decide (y3.P.Sport = a1.P.Sport) && (decide (y3.P.Dport = a1.P.Dport) && decide (y3.P.Data = a1.P.Data))))))))))))) (.ret (Bool.true))
  (.ret (Bool.false)))))
  (.ret (Bool.false)))
  (.ite (decide (a0.Kind = 5)) (.ite (decide ((↑y0.fst.length : Int) = (16 : Int))) (.ite (!decide (a0.Kind = 1)) (.ite (!decide (a0.Kind = 2)) (.ret (Bool.true))
  (.get (f20 a1 a0) fun (y4 : field_Seen) => (.ite (decide (y4.In = a1.In) && (decide (y4.Meta = a1.Meta) && (decide (y4.P.To = a1.P.To) && (decide (y4.P.From = a1.P.From) && (decide (y4.P.Vlan = a1.P.Vlan) && (decide (y4.P.Type_ = a1.P.Type_) && (decide (y4.P.Src = a1.P.Src) && (decide (y4.P.Dst = a1.P.Dst) && (decide (y4.P.Life = a1.P.Life) && (decide (y4.P.Proto = a1.P.Proto) && (decide (y4.P.Sport = a1.P.Sport) && (decide (y4.P.Dport = a1.P.Dport) && decide (y4.P.Data = a1.P.Data))))))))))))) (.ret (Bool.true))
  (.ret (Bool.false)))))
  (.get (f20 a1 a0) fun (y5 : field_Seen) => (.ite (decide (y5.In = a1.In) && (decide (y5.Meta = a1.Meta) && (decide (y5.P.To = a1.P.To) && (decide (y5.P.From = a1.P.From) && (decide (y5.P.Vlan = a1.P.Vlan) && (decide (y5.P.Type_ = a1.P.Type_) && (decide (y5.P.Src = a1.P.Src) && (decide (y5.P.Dst = a1.P.Dst) && (decide (y5.P.Life = a1.P.Life) && (decide (y5.P.Proto = a1.P.Proto) && (decide (y5.P.Sport = a1.P.Sport) && (decide (y5.P.Dport = a1.P.Dport) && decide (y5.P.Data = a1.P.Data))))))))))))) (.ret (Bool.true))
  (.ret (Bool.false)))))
  (.ret (Bool.false)))
  (.ite (decide ((↑y0.fst.length : Int) = (8 : Int))) (.ite (!decide (a0.Kind = 1)) (.ite (!decide (a0.Kind = 2)) (.ret (Bool.true))
  (.get (f20 a1 a0) fun (y6 : field_Seen) => (.ite (decide (y6.In = a1.In) && (decide (y6.Meta = a1.Meta) && (decide (y6.P.To = a1.P.To) && (decide (y6.P.From = a1.P.From) && (decide (y6.P.Vlan = a1.P.Vlan) && (decide (y6.P.Type_ = a1.P.Type_) && (decide (y6.P.Src = a1.P.Src) && (decide (y6.P.Dst = a1.P.Dst) && (decide (y6.P.Life = a1.P.Life) && (decide (y6.P.Proto = a1.P.Proto) && (decide (y6.P.Sport = a1.P.Sport) && (decide (y6.P.Dport = a1.P.Dport) && decide (y6.P.Data = a1.P.Data))))))))))))) (.ret (Bool.true))
  (.ret (Bool.false)))))
  (.get (f20 a1 a0) fun (y7 : field_Seen) => (.ite (decide (y7.In = a1.In) && (decide (y7.Meta = a1.Meta) && (decide (y7.P.To = a1.P.To) && (decide (y7.P.From = a1.P.From) && (decide (y7.P.Vlan = a1.P.Vlan) && (decide (y7.P.Type_ = a1.P.Type_) && (decide (y7.P.Src = a1.P.Src) && (decide (y7.P.Dst = a1.P.Dst) && (decide (y7.P.Life = a1.P.Life) && (decide (y7.P.Proto = a1.P.Proto) && (decide (y7.P.Sport = a1.P.Sport) && (decide (y7.P.Dport = a1.P.Dport) && decide (y7.P.Data = a1.P.Data))))))))))))) (.ret (Bool.true))
  (.ret (Bool.false)))))
  (.ret (Bool.false))))))))
noncomputable def f7 (a0 : Action) (a1 : field_Seen) : Option (Bool) := (u7 (a0) (a1)).opt
theorem E7 (y : ATup Th [.t 31, .t 41]) : startC C tab knActG1_6 i7 [] .b 5000 (encAs G [.t 31, .t 41] y) = (u7 (y.1) (y.2.1)).map (fun r => .inr ((fun (r : Bool) => (((.b (r))) : SV Th)) r)) := by kernel_rfl
theorem Q7 (y : ATup Th [.t 31, .t 41]) (r : Bool) (h : f7 (y.1) (y.2.1) = some r) : PCall Try.prog C 7 (encAs G [.t 31, .t 41] y) (· = (fun (r : Bool) => (((.b (r))) : SV Th)) r) := one_sound gok.ok koActG1_6 tabKnows k7 (by kernel_rfl) (by kernel_rfl) (E7 y) (Cm.den_opt h rfl)
noncomputable def knActG1_7 : KnownF Th := (7, knG G [.t 31, .t 41] fun y => .get (f7 (y.1) (y.2.1)) fun r => .ret ((fun (r : Bool) => (((.b (r))) : SV Th)) r)) :: knActG1_6
theorem koActG1_7 : KnownOk Try.prog C knActG1_7 := KnownOk.add gok koActG1_6 (known_opt (enc := fun (r : Bool) => (((.b (r))) : SV Th)) Q7 (fun _ => rfl))
-- 8 drover/droverlaw06.ActDecodes
noncomputable def u8 (a0 : List UInt8) : Cm (Bool) :=
  (.ite (decide ((2000 : Int) < (↑a0.length : Int))) (.ret (Bool.true))
  (.get (f22 a0) fun (y0 : List Action × Int) => (.get (f23 a0) fun (y1 : List Action × Int) => (.get (f16 y0.fst y1.fst) fun (y2 : Bool) => (.ite (y2) (.ite (decide (y0.snd = y1.snd)) (.ret (Bool.true))
  (.ret (Bool.false)))
  (.ret (Bool.false)))))))
noncomputable def f8 (a0 : List UInt8) : Option (Bool) := (u8 (a0)).opt
theorem E8 (y : ATup Th [.s]) : startC C tab knActG1_7 i8 [] .b 5000 (encAs G [.s] y) = (u8 (y.1)).map (fun r => .inr ((fun (r : Bool) => (((.b (r))) : SV Th)) r)) := by kernel_rfl
theorem Q8 (y : ATup Th [.s]) (r : Bool) (h : f8 (y.1) = some r) : PCall Try.prog C 8 (encAs G [.s] y) (· = (fun (r : Bool) => (((.b (r))) : SV Th)) r) := one_sound gok.ok koActG1_7 tabKnows k8 (by kernel_rfl) (by kernel_rfl) (E8 y) (Cm.den_opt h rfl)
noncomputable def knActG1_8 : KnownF Th := (8, knG G [.s] fun y => .get (f8 (y.1)) fun r => .ret ((fun (r : Bool) => (((.b (r))) : SV Th)) r)) :: knActG1_7
theorem koActG1_8 : KnownOk Try.prog C knActG1_8 := KnownOk.add gok koActG1_7 (known_opt (enc := fun (r : Bool) => (((.b (r))) : SV Th)) Q8 (fun _ => rfl))
-- 9 drover/droverlaw06.ActBack
noncomputable def u9 (a0 : List Action) (a1 : List UInt8) : Cm (Bool) :=
  (.ite (decide ((60 : Int) < (↑a0.length : Int))) (.ret (Bool.true))
  (.ite (decide ((2000 : Int) < (↑a1.length : Int))) (.ret (Bool.true))
  (.get (f12 a0) fun (y0 : List UInt8 × Int) => (.ite (decide (y0.snd = (0 : Int))) (.get (f22 y0.fst) fun (y1 : List Action × Int) => (.ite (!decide (y1.snd = (0 : Int))) (.ret (Bool.false))
  (.get (f16 a0 y1.fst) fun (y2 : Bool) => (.ite (!y2) (.ret (Bool.false))
  (.get (f22 a1) fun (y3 : List Action × Int) => (.ite (!decide (y3.snd = (0 : Int))) (.ite (decide ((↑y3.fst.length : Int) = (0 : Int))) (.ret (Bool.true))
  (.ret (Bool.false)))
  (.get (f12 y3.fst) fun (y4 : List UInt8 × Int) => (.ite (decide (y4.snd = (0 : Int))) (.ite (decide (y4.fst = a1)) (.ret (Bool.true))
  (.ret (Bool.false)))
  (.ret (Bool.false))))))))))
  (.ite (!decide (y0.fst = [])) (.ret (Bool.false))
  (.get (f22 a1) fun (y5 : List Action × Int) => (.ite (!decide (y5.snd = (0 : Int))) (.ite (decide ((↑y5.fst.length : Int) = (0 : Int))) (.ret (Bool.true))
  (.ret (Bool.false)))
  (.get (f12 y5.fst) fun (y6 : List UInt8 × Int) => (.ite (decide (y6.snd = (0 : Int))) (.ite (decide (y6.fst = a1)) (.ret (Bool.true))
  (.ret (Bool.false)))
  (.ret (Bool.false)))))))))))
noncomputable def f9 (a0 : List Action) (a1 : List UInt8) : Option (Bool) := (u9 (a0) (a1)).opt
theorem E9 (y : ATup Th [.l 31, .s]) : startC C tab knActG1_8 i9 [] .b 5000 (encAs G [.l 31, .s] y) = (u9 (y.1) (y.2.1)).map (fun r => .inr ((fun (r : Bool) => (((.b (r))) : SV Th)) r)) := by kernel_rfl
theorem Q9 (y : ATup Th [.l 31, .s]) (r : Bool) (h : f9 (y.1) (y.2.1) = some r) : PCall Try.prog C 9 (encAs G [.l 31, .s] y) (· = (fun (r : Bool) => (((.b (r))) : SV Th)) r) := one_sound gok.ok koActG1_8 tabKnows k9 (by kernel_rfl) (by kernel_rfl) (E9 y) (Cm.den_opt h rfl)
noncomputable def knActG1_9 : KnownF Th := (9, knG G [.l 31, .s] fun y => .get (f9 (y.1) (y.2.1)) fun r => .ret ((fun (r : Bool) => (((.b (r))) : SV Th)) r)) :: knActG1_8
theorem koActG1_9 : KnownOk Try.prog C knActG1_9 := KnownOk.add gok koActG1_8 (known_opt (enc := fun (r : Bool) => (((.b (r))) : SV Th)) Q9 (fun _ => rfl))
-- 10 drover/droverlaw06.ActRight
noncomputable def u10 (a0 : field_Seen) (a1 : Action) : Cm (Bool) :=
  (.ite (decide ((1000 : Int) < (↑a0.P.Data.length : Int))) (.ret (Bool.true))
  (.get (f14 a1) fun (y0 : Bool) => (.ite (!y0) (.ret (Bool.true))
  (.get (f24 a0.P) fun (y1 : List UInt8 × Int) => (.get (f20 a0 a1) fun (y2 : field_Seen) => (.get (f24 y2.P) fun (y3 : List UInt8 × Int) => (.ite (!decide (y1.snd = (0 : Int))) (.ite (decide (y2.In = a0.In)) (.ite (decide (y2.P.Data = a0.P.Data)) (.ret (Bool.true))
  (.ret (Bool.false)))
  (.ret (Bool.false)))
  (.ite (decide (y3.snd = (0 : Int))) (.ite (decide (y2.In = a0.In)) (.ite (decide (y2.P.Data = a0.P.Data)) (.ret (Bool.true))
  (.ret (Bool.false)))
  (.ret (Bool.false)))
  (.ret (Bool.false))))))))))
noncomputable def f10 (a0 : field_Seen) (a1 : Action) : Option (Bool) := (u10 (a0) (a1)).opt
theorem E10 (y : ATup Th [.t 41, .t 31]) : startC C tab knActG1_9 i10 [] .b 5000 (encAs G [.t 41, .t 31] y) = (u10 (y.1) (y.2.1)).map (fun r => .inr ((fun (r : Bool) => (((.b (r))) : SV Th)) r)) := by kernel_rfl
theorem Q10 (y : ATup Th [.t 41, .t 31]) (r : Bool) (h : f10 (y.1) (y.2.1) = some r) : PCall Try.prog C 10 (encAs G [.t 41, .t 31] y) (· = (fun (r : Bool) => (((.b (r))) : SV Th)) r) := one_sound gok.ok koActG1_9 tabKnows k10 (by kernel_rfl) (by kernel_rfl) (E10 y) (Cm.den_opt h rfl)
noncomputable def knActG1_10 : KnownF Th := (10, knG G [.t 41, .t 31] fun y => .get (f10 (y.1) (y.2.1)) fun r => .ret ((fun (r : Bool) => (((.b (r))) : SV Th)) r)) :: knActG1_9
theorem koActG1_10 : KnownOk Try.prog C knActG1_10 := KnownOk.add gok koActG1_9 (known_opt (enc := fun (r : Bool) => (((.b (r))) : SV Th)) Q10 (fun _ => rfl))
noncomputable def kn_ActG1 : KnownF Th := knActG1_10
theorem ko_ActG1 : KnownOk Try.prog C kn_ActG1 := koActG1_10
end Go.Proofs.Act
