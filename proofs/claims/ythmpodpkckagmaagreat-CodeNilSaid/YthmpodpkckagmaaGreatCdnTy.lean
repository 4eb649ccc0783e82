/- A part of the proof of CodeNil: CdnTy. -/
import Derived.Test.YthmpodpkckagmaaGreatSvCod
set_option linter.unusedSimpArgs false
set_option linter.constructorNameAsVariable false
namespace Go.Proofs.Cdn
open Go Go.Ab
set_option linter.unusedVariables false
structure Test where
  Field : Int
  Value : Int
  Mask : Int
  deriving DecidableEq, Inhabited
structure code_Rule where
  Cubes : (List (List Test))
  Rate : Int
  Room : Int
  deriving DecidableEq, Inhabited
structure plan_Node where
  Switch : Int
  Job : Int
  Host : Int
  State : Int
  Down : (List Int)
  deriving DecidableEq, Inhabited
structure plan_Hop where
  Port : Int
  Node : Int
  deriving DecidableEq, Inhabited
structure plan_Start where
  Job : Int
  From : Int
  Host : Int
  Node : Int
  deriving DecidableEq, Inhabited
structure plan_Plan where
  Nodes : (List plan_Node)
  Hops : (List (List plan_Hop))
  Starts : (List plan_Start)
  deriving DecidableEq, Inhabited
structure topo_place where
  sw : Int
  port : Int
  deriving DecidableEq, Inhabited
structure wire_Meter where
  ID : Int
  Rate : Int
  Burst : Int
  deriving DecidableEq, Inhabited
structure Action where
  Kind : Int
  Field : Int
  Value : Int
  deriving DecidableEq, Inhabited
structure Entry where
  Table : Int
  Priority : Int
  Tests : (List Test)
  Apply : (List Action)
  Write : (List Action)
  Clear : Bool
  Meta : Int
  MetaMask : Int
  Meter : Int
  Goto : Int
  deriving DecidableEq, Inhabited
structure Bucket where
  Watch : Int
  Weight : Int
  Actions : (List Action)
  deriving DecidableEq, Inhabited
structure Group where
  ID : Int
  Kind : Int
  Buckets : (List Bucket)
  deriving DecidableEq, Inhabited
structure wire_Message where
  Kind : Int
  Xid : Int
  Command : Int
  Check : Bool
  Entry : Entry
  Group : Group
  Meter : wire_Meter
  Type_ : Int
  Code : Int
  Port : Int
  Live : Bool
  Actions : (List Action)
  Data : (List UInt8)
  deriving DecidableEq, Inhabited
structure topo_end where
  place : topo_place
  link : Int
  deriving DecidableEq, Inhabited
inductive Tg where
  | no
  | t3
  | t51
  | t53
  | t48
  | t36
  | t38
  | t9
  | t40
  | t81
  | t83
  | t87
  | t84
  | t57
  | t27
  | t28
  | t29
  | t31
  | t91
  | t95
  | t114
  | t47
  | t96
  | t4
  | t98
  | t131
  | t99
  | t101
  | t103
  | t121
  | t5
  | t22
def tg (c : Nat) : Tg :=
  bif Nat.beq c 3 then .t3 else
  bif Nat.beq c 51 then .t51 else
  bif Nat.beq c 53 then .t53 else
  bif Nat.beq c 48 then .t48 else
  bif Nat.beq c 36 then .t36 else
  bif Nat.beq c 38 then .t38 else
  bif Nat.beq c 9 then .t9 else
  bif Nat.beq c 40 then .t40 else
  bif Nat.beq c 81 then .t81 else
  bif Nat.beq c 83 then .t83 else
  bif Nat.beq c 87 then .t87 else
  bif Nat.beq c 84 then .t84 else
  bif Nat.beq c 57 then .t57 else
  bif Nat.beq c 27 then .t27 else
  bif Nat.beq c 28 then .t28 else
  bif Nat.beq c 29 then .t29 else
  bif Nat.beq c 31 then .t31 else
  bif Nat.beq c 91 then .t91 else
  bif Nat.beq c 95 then .t95 else
  bif Nat.beq c 114 then .t114 else
  bif Nat.beq c 47 then .t47 else
  bif Nat.beq c 96 then .t96 else
  bif Nat.beq c 4 then .t4 else
  bif Nat.beq c 98 then .t98 else
  bif Nat.beq c 131 then .t131 else
  bif Nat.beq c 99 then .t99 else
  bif Nat.beq c 101 then .t101 else
  bif Nat.beq c 103 then .t103 else
  bif Nat.beq c 121 then .t121 else
  bif Nat.beq c 5 then .t5 else
  bif Nat.beq c 22 then .t22 else
  .no
@[reducible] def tgT : Tg → Type
  | .no => Bool
  | .t3 => Int
  | .t51 => Int
  | .t53 => Test
  | .t48 => (List Test)
  | .t36 => (List (List Test))
  | .t38 => code_Rule
  | .t9 => (List UInt8)
  | .t40 => (List (List UInt8))
  | .t81 => (List Int)
  | .t83 => plan_Node
  | .t87 => plan_Hop
  | .t84 => (List plan_Hop)
  | .t57 => plan_Start
  | .t27 => (List plan_Node)
  | .t28 => (List (List plan_Hop))
  | .t29 => (List plan_Start)
  | .t31 => plan_Plan
  | .t91 => topo_place
  | .t95 => wire_Meter
  | .t114 => Action
  | .t47 => (List Test)
  | .t96 => (List Action)
  | .t4 => Bool
  | .t98 => Entry
  | .t131 => Bucket
  | .t99 => (List Bucket)
  | .t101 => Group
  | .t103 => wire_Message
  | .t121 => topo_end
  | .t5 => Int
  | .t22 => (List code_Rule)
@[reducible] def Th (c : Nat) : Type := tgT (tg c)
def lay' : Tg → Option Nat
  | .no => none
  | .t3 => none
  | .t51 => none
  | .t53 => some 3
  | .t48 => none
  | .t36 => none
  | .t38 => some 3
  | .t9 => none
  | .t40 => none
  | .t81 => none
  | .t83 => some 5
  | .t87 => some 2
  | .t84 => none
  | .t57 => some 4
  | .t27 => none
  | .t28 => none
  | .t29 => none
  | .t31 => some 3
  | .t91 => some 2
  | .t95 => some 3
  | .t114 => some 3
  | .t47 => none
  | .t96 => none
  | .t4 => none
  | .t98 => some 10
  | .t131 => some 3
  | .t99 => none
  | .t101 => some 3
  | .t103 => some 26
  | .t121 => some 3
  | .t5 => none
  | .t22 => none
@[reducible] def ty' : Tg → List Ty
  | .no => [.b]
  | .t3 => [.i .i64]
  | .t51 => [.i .u64]
  | .t53 => [.i .i64, .i .u64, .i .u64]
  | .t48 => [.l 53]
  | .t36 => [.l 48]
  | .t38 => [.l 48, .i .i64, .i .i64]
  | .t9 => [.s]
  | .t40 => [.l 9]
  | .t81 => [.l 3]
  | .t83 => [.i .i64, .i .i64, .i .i64, .i .i64, .l 3]
  | .t87 => [.i .i64, .i .i64]
  | .t84 => [.l 87]
  | .t57 => [.i .i64, .i .i64, .i .i64, .i .i64]
  | .t27 => [.l 83]
  | .t28 => [.l 84]
  | .t29 => [.l 57]
  | .t31 => [.l 83, .l 84, .l 57]
  | .t91 => [.i .i64, .i .i64]
  | .t95 => [.i .i64, .i .i64, .i .i64]
  | .t114 => [.i .i64, .i .i64, .i .u64]
  | .t47 => [.l 53]
  | .t96 => [.l 114]
  | .t4 => [.b]
  | .t98 => [.i .i64, .i .i64, .l 53, .l 114, .l 114, .b, .i .u64, .i .u64, .i .i64, .i .i64]
  | .t131 => [.i .i64, .i .i64, .l 114]
  | .t99 => [.l 131]
  | .t101 => [.i .i64, .i .i64, .l 131]
  | .t103 => [.i .i64, .i .i64, .i .i64, .b, .i .i64, .i .i64, .l 53, .l 114, .l 114, .b, .i .u64, .i .u64, .i .i64, .i .i64, .i .i64, .i .i64, .l 131, .i .i64, .i .i64, .i .i64, .i .i64, .i .i64, .i .i64, .b, .l 114, .s]
  | .t121 => [.i .i64, .i .i64, .i .i64]
  | .t5 => [.i .u8]
  | .t22 => [.l 38]
def to' : (t : Tg) → tgT t → Tup Th (ty' t)
  | .no, x => (x, ())
  | .t3, x => (x, ())
  | .t51, x => (x, ())
  | .t53, x => (x.Field, x.Value, x.Mask, ())
  | .t48, x => (x, ())
  | .t36, x => (x, ())
  | .t38, x => (x.Cubes, x.Rate, x.Room, ())
  | .t9, x => (x, ())
  | .t40, x => (x, ())
  | .t81, x => (x, ())
  | .t83, x => (x.Switch, x.Job, x.Host, x.State, x.Down, ())
  | .t87, x => (x.Port, x.Node, ())
  | .t84, x => (x, ())
  | .t57, x => (x.Job, x.From, x.Host, x.Node, ())
  | .t27, x => (x, ())
  | .t28, x => (x, ())
  | .t29, x => (x, ())
  | .t31, x => (x.Nodes, x.Hops, x.Starts, ())
  | .t91, x => (x.sw, x.port, ())
  | .t95, x => (x.ID, x.Rate, x.Burst, ())
  | .t114, x => (x.Kind, x.Field, x.Value, ())
  | .t47, x => (x, ())
  | .t96, x => (x, ())
  | .t4, x => (x, ())
  | .t98, x => (x.Table, x.Priority, x.Tests, x.Apply, x.Write, x.Clear, x.Meta, x.MetaMask, x.Meter, x.Goto, ())
  | .t131, x => (x.Watch, x.Weight, x.Actions, ())
  | .t99, x => (x, ())
  | .t101, x => (x.ID, x.Kind, x.Buckets, ())
  | .t103, x => (x.Kind, x.Xid, x.Command, x.Check, x.Entry.Table, x.Entry.Priority, x.Entry.Tests, x.Entry.Apply, x.Entry.Write, x.Entry.Clear, x.Entry.Meta, x.Entry.MetaMask, x.Entry.Meter, x.Entry.Goto, x.Group.ID, x.Group.Kind, x.Group.Buckets, x.Meter.ID, x.Meter.Rate, x.Meter.Burst, x.Type_, x.Code, x.Port, x.Live, x.Actions, x.Data, ())
  | .t121, x => (x.place.sw, x.place.port, x.link, ())
  | .t5, x => (x, ())
  | .t22, x => (x, ())
def fr' : (t : Tg) → Tup Th (ty' t) → tgT t
  | .no, y => y.1
  | .t3, y => y.1
  | .t51, y => y.1
  | .t53, y => ⟨y.1, y.2.1, y.2.2.1⟩
  | .t48, y => y.1
  | .t36, y => y.1
  | .t38, y => ⟨y.1, y.2.1, y.2.2.1⟩
  | .t9, y => y.1
  | .t40, y => y.1
  | .t81, y => y.1
  | .t83, y => ⟨y.1, y.2.1, y.2.2.1, y.2.2.2.1, y.2.2.2.2.1⟩
  | .t87, y => ⟨y.1, y.2.1⟩
  | .t84, y => y.1
  | .t57, y => ⟨y.1, y.2.1, y.2.2.1, y.2.2.2.1⟩
  | .t27, y => y.1
  | .t28, y => y.1
  | .t29, y => y.1
  | .t31, y => ⟨y.1, y.2.1, y.2.2.1⟩
  | .t91, y => ⟨y.1, y.2.1⟩
  | .t95, y => ⟨y.1, y.2.1, y.2.2.1⟩
  | .t114, y => ⟨y.1, y.2.1, y.2.2.1⟩
  | .t47, y => y.1
  | .t96, y => y.1
  | .t4, y => y.1
  | .t98, y => ⟨y.1, y.2.1, y.2.2.1, y.2.2.2.1, y.2.2.2.2.1, y.2.2.2.2.2.1, y.2.2.2.2.2.2.1, y.2.2.2.2.2.2.2.1, y.2.2.2.2.2.2.2.2.1, y.2.2.2.2.2.2.2.2.2.1⟩
  | .t131, y => ⟨y.1, y.2.1, y.2.2.1⟩
  | .t99, y => y.1
  | .t101, y => ⟨y.1, y.2.1, y.2.2.1⟩
  | .t103, y => ⟨y.1, y.2.1, y.2.2.1, y.2.2.2.1, ⟨y.2.2.2.2.1, y.2.2.2.2.2.1, y.2.2.2.2.2.2.1, y.2.2.2.2.2.2.2.1, y.2.2.2.2.2.2.2.2.1, y.2.2.2.2.2.2.2.2.2.1, y.2.2.2.2.2.2.2.2.2.2.1, y.2.2.2.2.2.2.2.2.2.2.2.1, y.2.2.2.2.2.2.2.2.2.2.2.2.1, y.2.2.2.2.2.2.2.2.2.2.2.2.2.1⟩, ⟨y.2.2.2.2.2.2.2.2.2.2.2.2.2.2.1, y.2.2.2.2.2.2.2.2.2.2.2.2.2.2.2.1, y.2.2.2.2.2.2.2.2.2.2.2.2.2.2.2.2.1⟩, ⟨y.2.2.2.2.2.2.2.2.2.2.2.2.2.2.2.2.2.1, y.2.2.2.2.2.2.2.2.2.2.2.2.2.2.2.2.2.2.1, y.2.2.2.2.2.2.2.2.2.2.2.2.2.2.2.2.2.2.2.1⟩, y.2.2.2.2.2.2.2.2.2.2.2.2.2.2.2.2.2.2.2.2.1, y.2.2.2.2.2.2.2.2.2.2.2.2.2.2.2.2.2.2.2.2.2.1, y.2.2.2.2.2.2.2.2.2.2.2.2.2.2.2.2.2.2.2.2.2.2.1, y.2.2.2.2.2.2.2.2.2.2.2.2.2.2.2.2.2.2.2.2.2.2.2.1, y.2.2.2.2.2.2.2.2.2.2.2.2.2.2.2.2.2.2.2.2.2.2.2.2.1, y.2.2.2.2.2.2.2.2.2.2.2.2.2.2.2.2.2.2.2.2.2.2.2.2.2.1⟩
  | .t121, y => ⟨⟨y.1, y.2.1⟩, y.2.2.1⟩
  | .t5, y => y.1
  | .t22, y => y.1
def avs_3 (x : Int) : List AV := [.v (.int .i64 x)]
theorem sh_3 (x : Int) : AV.shut.shutL (avs_3 x) = true := shL_cons rfl (shL_nil)
theorem sw_3 (x : Int) : (wrapA (lay' (tg 3)) (avs_3 x)).shut = true := shL_head (sh_3 x)
def avs_51 (x : Int) : List AV := [.v (.int .u64 x)]
theorem sh_51 (x : Int) : AV.shut.shutL (avs_51 x) = true := shL_cons rfl (shL_nil)
theorem sw_51 (x : Int) : (wrapA (lay' (tg 51)) (avs_51 x)).shut = true := shL_head (sh_51 x)
def avs_53 (x : Test) : List AV := [.v (.int .i64 x.Field), .v (.int .u64 x.Value), .v (.int .u64 x.Mask)]
theorem sh_53 (x : Test) : AV.shut.shutL (avs_53 x) = true := shL_cons rfl (shL_cons rfl (shL_cons rfl (shL_nil)))
theorem sw_53 (x : Test) : (wrapA (lay' (tg 53)) (avs_53 x)).shut = true := sh_53 x
def avs_48 (x : (List Test)) : List AV := [.lst (lay' (tg 53) |> laySize) (x.map fun y => wrapA (lay' (tg 53)) (avs_53 y))]
theorem sh_48 (x : (List Test)) : AV.shut.shutL (avs_48 x) = true := shL_cons (shL_map fun y => sw_53 y) (shL_nil)
theorem sw_48 (x : (List Test)) : (wrapA (lay' (tg 48)) (avs_48 x)).shut = true := shL_head (sh_48 x)
def avs_36 (x : (List (List Test))) : List AV := [.lst (lay' (tg 48) |> laySize) (x.map fun y => wrapA (lay' (tg 48)) (avs_48 y))]
theorem sh_36 (x : (List (List Test))) : AV.shut.shutL (avs_36 x) = true := shL_cons (shL_map fun y => sw_48 y) (shL_nil)
theorem sw_36 (x : (List (List Test))) : (wrapA (lay' (tg 36)) (avs_36 x)).shut = true := shL_head (sh_36 x)
def avs_38 (x : code_Rule) : List AV := [.lst (lay' (tg 48) |> laySize) (x.Cubes.map fun y => wrapA (lay' (tg 48)) (avs_48 y)), .v (.int .i64 x.Rate), .v (.int .i64 x.Room)]
theorem sh_38 (x : code_Rule) : AV.shut.shutL (avs_38 x) = true := shL_cons (shL_map fun y => sw_48 y) (shL_cons rfl (shL_cons rfl (shL_nil)))
theorem sw_38 (x : code_Rule) : (wrapA (lay' (tg 38)) (avs_38 x)).shut = true := sh_38 x
def avs_9 (x : (List UInt8)) : List AV := [.v (bytesV x)]
theorem sh_9 (x : (List UInt8)) : AV.shut.shutL (avs_9 x) = true := shL_cons rfl (shL_nil)
theorem sw_9 (x : (List UInt8)) : (wrapA (lay' (tg 9)) (avs_9 x)).shut = true := shL_head (sh_9 x)
def avs_40 (x : (List (List UInt8))) : List AV := [.lst (lay' (tg 9) |> laySize) (x.map fun y => wrapA (lay' (tg 9)) (avs_9 y))]
theorem sh_40 (x : (List (List UInt8))) : AV.shut.shutL (avs_40 x) = true := shL_cons (shL_map fun y => sw_9 y) (shL_nil)
theorem sw_40 (x : (List (List UInt8))) : (wrapA (lay' (tg 40)) (avs_40 x)).shut = true := shL_head (sh_40 x)
def avs_81 (x : (List Int)) : List AV := [.lst (lay' (tg 3) |> laySize) (x.map fun y => wrapA (lay' (tg 3)) (avs_3 y))]
theorem sh_81 (x : (List Int)) : AV.shut.shutL (avs_81 x) = true := shL_cons (shL_map fun y => sw_3 y) (shL_nil)
theorem sw_81 (x : (List Int)) : (wrapA (lay' (tg 81)) (avs_81 x)).shut = true := shL_head (sh_81 x)
def avs_83 (x : plan_Node) : List AV := [.v (.int .i64 x.Switch), .v (.int .i64 x.Job), .v (.int .i64 x.Host), .v (.int .i64 x.State), .lst (lay' (tg 3) |> laySize) (x.Down.map fun y => wrapA (lay' (tg 3)) (avs_3 y))]
theorem sh_83 (x : plan_Node) : AV.shut.shutL (avs_83 x) = true := shL_cons rfl (shL_cons rfl (shL_cons rfl (shL_cons rfl (shL_cons (shL_map fun y => sw_3 y) (shL_nil)))))
theorem sw_83 (x : plan_Node) : (wrapA (lay' (tg 83)) (avs_83 x)).shut = true := sh_83 x
def avs_87 (x : plan_Hop) : List AV := [.v (.int .i64 x.Port), .v (.int .i64 x.Node)]
theorem sh_87 (x : plan_Hop) : AV.shut.shutL (avs_87 x) = true := shL_cons rfl (shL_cons rfl (shL_nil))
theorem sw_87 (x : plan_Hop) : (wrapA (lay' (tg 87)) (avs_87 x)).shut = true := sh_87 x
def avs_84 (x : (List plan_Hop)) : List AV := [.lst (lay' (tg 87) |> laySize) (x.map fun y => wrapA (lay' (tg 87)) (avs_87 y))]
theorem sh_84 (x : (List plan_Hop)) : AV.shut.shutL (avs_84 x) = true := shL_cons (shL_map fun y => sw_87 y) (shL_nil)
theorem sw_84 (x : (List plan_Hop)) : (wrapA (lay' (tg 84)) (avs_84 x)).shut = true := shL_head (sh_84 x)
def avs_57 (x : plan_Start) : List AV := [.v (.int .i64 x.Job), .v (.int .i64 x.From), .v (.int .i64 x.Host), .v (.int .i64 x.Node)]
theorem sh_57 (x : plan_Start) : AV.shut.shutL (avs_57 x) = true := shL_cons rfl (shL_cons rfl (shL_cons rfl (shL_cons rfl (shL_nil))))
theorem sw_57 (x : plan_Start) : (wrapA (lay' (tg 57)) (avs_57 x)).shut = true := sh_57 x
def avs_27 (x : (List plan_Node)) : List AV := [.lst (lay' (tg 83) |> laySize) (x.map fun y => wrapA (lay' (tg 83)) (avs_83 y))]
theorem sh_27 (x : (List plan_Node)) : AV.shut.shutL (avs_27 x) = true := shL_cons (shL_map fun y => sw_83 y) (shL_nil)
theorem sw_27 (x : (List plan_Node)) : (wrapA (lay' (tg 27)) (avs_27 x)).shut = true := shL_head (sh_27 x)
def avs_28 (x : (List (List plan_Hop))) : List AV := [.lst (lay' (tg 84) |> laySize) (x.map fun y => wrapA (lay' (tg 84)) (avs_84 y))]
theorem sh_28 (x : (List (List plan_Hop))) : AV.shut.shutL (avs_28 x) = true := shL_cons (shL_map fun y => sw_84 y) (shL_nil)
theorem sw_28 (x : (List (List plan_Hop))) : (wrapA (lay' (tg 28)) (avs_28 x)).shut = true := shL_head (sh_28 x)
def avs_29 (x : (List plan_Start)) : List AV := [.lst (lay' (tg 57) |> laySize) (x.map fun y => wrapA (lay' (tg 57)) (avs_57 y))]
theorem sh_29 (x : (List plan_Start)) : AV.shut.shutL (avs_29 x) = true := shL_cons (shL_map fun y => sw_57 y) (shL_nil)
theorem sw_29 (x : (List plan_Start)) : (wrapA (lay' (tg 29)) (avs_29 x)).shut = true := shL_head (sh_29 x)
def avs_31 (x : plan_Plan) : List AV := [.lst (lay' (tg 83) |> laySize) (x.Nodes.map fun y => wrapA (lay' (tg 83)) (avs_83 y)), .lst (lay' (tg 84) |> laySize) (x.Hops.map fun y => wrapA (lay' (tg 84)) (avs_84 y)), .lst (lay' (tg 57) |> laySize) (x.Starts.map fun y => wrapA (lay' (tg 57)) (avs_57 y))]
theorem sh_31 (x : plan_Plan) : AV.shut.shutL (avs_31 x) = true := shL_cons (shL_map fun y => sw_83 y) (shL_cons (shL_map fun y => sw_84 y) (shL_cons (shL_map fun y => sw_57 y) (shL_nil)))
theorem sw_31 (x : plan_Plan) : (wrapA (lay' (tg 31)) (avs_31 x)).shut = true := sh_31 x
def avs_91 (x : topo_place) : List AV := [.v (.int .i64 x.sw), .v (.int .i64 x.port)]
theorem sh_91 (x : topo_place) : AV.shut.shutL (avs_91 x) = true := shL_cons rfl (shL_cons rfl (shL_nil))
theorem sw_91 (x : topo_place) : (wrapA (lay' (tg 91)) (avs_91 x)).shut = true := sh_91 x
def avs_95 (x : wire_Meter) : List AV := [.v (.int .i64 x.ID), .v (.int .i64 x.Rate), .v (.int .i64 x.Burst)]
theorem sh_95 (x : wire_Meter) : AV.shut.shutL (avs_95 x) = true := shL_cons rfl (shL_cons rfl (shL_cons rfl (shL_nil)))
theorem sw_95 (x : wire_Meter) : (wrapA (lay' (tg 95)) (avs_95 x)).shut = true := sh_95 x
def avs_114 (x : Action) : List AV := [.v (.int .i64 x.Kind), .v (.int .i64 x.Field), .v (.int .u64 x.Value)]
theorem sh_114 (x : Action) : AV.shut.shutL (avs_114 x) = true := shL_cons rfl (shL_cons rfl (shL_cons rfl (shL_nil)))
theorem sw_114 (x : Action) : (wrapA (lay' (tg 114)) (avs_114 x)).shut = true := sh_114 x
def avs_47 (x : (List Test)) : List AV := [.lst (lay' (tg 53) |> laySize) (x.map fun y => wrapA (lay' (tg 53)) (avs_53 y))]
theorem sh_47 (x : (List Test)) : AV.shut.shutL (avs_47 x) = true := shL_cons (shL_map fun y => sw_53 y) (shL_nil)
theorem sw_47 (x : (List Test)) : (wrapA (lay' (tg 47)) (avs_47 x)).shut = true := shL_head (sh_47 x)
def avs_96 (x : (List Action)) : List AV := [.lst (lay' (tg 114) |> laySize) (x.map fun y => wrapA (lay' (tg 114)) (avs_114 y))]
theorem sh_96 (x : (List Action)) : AV.shut.shutL (avs_96 x) = true := shL_cons (shL_map fun y => sw_114 y) (shL_nil)
theorem sw_96 (x : (List Action)) : (wrapA (lay' (tg 96)) (avs_96 x)).shut = true := shL_head (sh_96 x)
def avs_4 (x : Bool) : List AV := [.v (.bool x)]
theorem sh_4 (x : Bool) : AV.shut.shutL (avs_4 x) = true := shL_cons rfl (shL_nil)
theorem sw_4 (x : Bool) : (wrapA (lay' (tg 4)) (avs_4 x)).shut = true := shL_head (sh_4 x)
def avs_98 (x : Entry) : List AV := [.v (.int .i64 x.Table), .v (.int .i64 x.Priority), .lst (lay' (tg 53) |> laySize) (x.Tests.map fun y => wrapA (lay' (tg 53)) (avs_53 y)), .lst (lay' (tg 114) |> laySize) (x.Apply.map fun y => wrapA (lay' (tg 114)) (avs_114 y)), .lst (lay' (tg 114) |> laySize) (x.Write.map fun y => wrapA (lay' (tg 114)) (avs_114 y)), .v (.bool x.Clear), .v (.int .u64 x.Meta), .v (.int .u64 x.MetaMask), .v (.int .i64 x.Meter), .v (.int .i64 x.Goto)]
theorem sh_98 (x : Entry) : AV.shut.shutL (avs_98 x) = true := shL_cons rfl (shL_cons rfl (shL_cons (shL_map fun y => sw_53 y) (shL_cons (shL_map fun y => sw_114 y) (shL_cons (shL_map fun y => sw_114 y) (shL_cons rfl (shL_cons rfl (shL_cons rfl (shL_cons rfl (shL_cons rfl (shL_nil))))))))))
theorem sw_98 (x : Entry) : (wrapA (lay' (tg 98)) (avs_98 x)).shut = true := sh_98 x
def avs_131 (x : Bucket) : List AV := [.v (.int .i64 x.Watch), .v (.int .i64 x.Weight), .lst (lay' (tg 114) |> laySize) (x.Actions.map fun y => wrapA (lay' (tg 114)) (avs_114 y))]
theorem sh_131 (x : Bucket) : AV.shut.shutL (avs_131 x) = true := shL_cons rfl (shL_cons rfl (shL_cons (shL_map fun y => sw_114 y) (shL_nil)))
theorem sw_131 (x : Bucket) : (wrapA (lay' (tg 131)) (avs_131 x)).shut = true := sh_131 x
def avs_99 (x : (List Bucket)) : List AV := [.lst (lay' (tg 131) |> laySize) (x.map fun y => wrapA (lay' (tg 131)) (avs_131 y))]
theorem sh_99 (x : (List Bucket)) : AV.shut.shutL (avs_99 x) = true := shL_cons (shL_map fun y => sw_131 y) (shL_nil)
theorem sw_99 (x : (List Bucket)) : (wrapA (lay' (tg 99)) (avs_99 x)).shut = true := shL_head (sh_99 x)
def avs_101 (x : Group) : List AV := [.v (.int .i64 x.ID), .v (.int .i64 x.Kind), .lst (lay' (tg 131) |> laySize) (x.Buckets.map fun y => wrapA (lay' (tg 131)) (avs_131 y))]
theorem sh_101 (x : Group) : AV.shut.shutL (avs_101 x) = true := shL_cons rfl (shL_cons rfl (shL_cons (shL_map fun y => sw_131 y) (shL_nil)))
theorem sw_101 (x : Group) : (wrapA (lay' (tg 101)) (avs_101 x)).shut = true := sh_101 x
def avs_103 (x : wire_Message) : List AV := [.v (.int .i64 x.Kind), .v (.int .i64 x.Xid), .v (.int .i64 x.Command), .v (.bool x.Check), .v (.int .i64 x.Entry.Table), .v (.int .i64 x.Entry.Priority), .lst (lay' (tg 53) |> laySize) (x.Entry.Tests.map fun y => wrapA (lay' (tg 53)) (avs_53 y)), .lst (lay' (tg 114) |> laySize) (x.Entry.Apply.map fun y => wrapA (lay' (tg 114)) (avs_114 y)), .lst (lay' (tg 114) |> laySize) (x.Entry.Write.map fun y => wrapA (lay' (tg 114)) (avs_114 y)), .v (.bool x.Entry.Clear), .v (.int .u64 x.Entry.Meta), .v (.int .u64 x.Entry.MetaMask), .v (.int .i64 x.Entry.Meter), .v (.int .i64 x.Entry.Goto), .v (.int .i64 x.Group.ID), .v (.int .i64 x.Group.Kind), .lst (lay' (tg 131) |> laySize) (x.Group.Buckets.map fun y => wrapA (lay' (tg 131)) (avs_131 y)), .v (.int .i64 x.Meter.ID), .v (.int .i64 x.Meter.Rate), .v (.int .i64 x.Meter.Burst), .v (.int .i64 x.Type_), .v (.int .i64 x.Code), .v (.int .i64 x.Port), .v (.bool x.Live), .lst (lay' (tg 114) |> laySize) (x.Actions.map fun y => wrapA (lay' (tg 114)) (avs_114 y)), .v (bytesV x.Data)]
theorem sh_103 (x : wire_Message) : AV.shut.shutL (avs_103 x) = true := shL_cons rfl (shL_cons rfl (shL_cons rfl (shL_cons rfl (shL_cons rfl (shL_cons rfl (shL_cons (shL_map fun y => sw_53 y) (shL_cons (shL_map fun y => sw_114 y) (shL_cons (shL_map fun y => sw_114 y) (shL_cons rfl (shL_cons rfl (shL_cons rfl (shL_cons rfl (shL_cons rfl (shL_cons rfl (shL_cons rfl (shL_cons (shL_map fun y => sw_131 y) (shL_cons rfl (shL_cons rfl (shL_cons rfl (shL_cons rfl (shL_cons rfl (shL_cons rfl (shL_cons rfl (shL_cons (shL_map fun y => sw_114 y) (shL_cons rfl (shL_nil))))))))))))))))))))))))))
theorem sw_103 (x : wire_Message) : (wrapA (lay' (tg 103)) (avs_103 x)).shut = true := sh_103 x
def avs_121 (x : topo_end) : List AV := [.v (.int .i64 x.place.sw), .v (.int .i64 x.place.port), .v (.int .i64 x.link)]
theorem sh_121 (x : topo_end) : AV.shut.shutL (avs_121 x) = true := shL_cons rfl (shL_cons rfl (shL_cons rfl (shL_nil)))
theorem sw_121 (x : topo_end) : (wrapA (lay' (tg 121)) (avs_121 x)).shut = true := sh_121 x
def avs_5 (x : Int) : List AV := [.v (.int .u8 x)]
theorem sh_5 (x : Int) : AV.shut.shutL (avs_5 x) = true := shL_cons rfl (shL_nil)
theorem sw_5 (x : Int) : (wrapA (lay' (tg 5)) (avs_5 x)).shut = true := shL_head (sh_5 x)
def avs_22 (x : (List code_Rule)) : List AV := [.lst (lay' (tg 38) |> laySize) (x.map fun y => wrapA (lay' (tg 38)) (avs_38 y))]
theorem sh_22 (x : (List code_Rule)) : AV.shut.shutL (avs_22 x) = true := shL_cons (shL_map fun y => sw_38 y) (shL_nil)
theorem sw_22 (x : (List code_Rule)) : (wrapA (lay' (tg 22)) (avs_22 x)).shut = true := shL_head (sh_22 x)
def avs' : (t : Tg) → tgT t → List AV
  | .no, x => [.v (.bool x)]
  | .t3, x => avs_3 x
  | .t51, x => avs_51 x
  | .t53, x => avs_53 x
  | .t48, x => avs_48 x
  | .t36, x => avs_36 x
  | .t38, x => avs_38 x
  | .t9, x => avs_9 x
  | .t40, x => avs_40 x
  | .t81, x => avs_81 x
  | .t83, x => avs_83 x
  | .t87, x => avs_87 x
  | .t84, x => avs_84 x
  | .t57, x => avs_57 x
  | .t27, x => avs_27 x
  | .t28, x => avs_28 x
  | .t29, x => avs_29 x
  | .t31, x => avs_31 x
  | .t91, x => avs_91 x
  | .t95, x => avs_95 x
  | .t114, x => avs_114 x
  | .t47, x => avs_47 x
  | .t96, x => avs_96 x
  | .t4, x => avs_4 x
  | .t98, x => avs_98 x
  | .t131, x => avs_131 x
  | .t99, x => avs_99 x
  | .t101, x => avs_101 x
  | .t103, x => avs_103 x
  | .t121, x => avs_121 x
  | .t5, x => avs_5 x
  | .t22, x => avs_22 x
theorem shut' : ∀ (t : Tg) (x : tgT t), AV.shut.shutL (avs' t x) = true
  | .no, x => rfl
  | .t3, x => sh_3 x
  | .t51, x => sh_51 x
  | .t53, x => sh_53 x
  | .t48, x => sh_48 x
  | .t36, x => sh_36 x
  | .t38, x => sh_38 x
  | .t9, x => sh_9 x
  | .t40, x => sh_40 x
  | .t81, x => sh_81 x
  | .t83, x => sh_83 x
  | .t87, x => sh_87 x
  | .t84, x => sh_84 x
  | .t57, x => sh_57 x
  | .t27, x => sh_27 x
  | .t28, x => sh_28 x
  | .t29, x => sh_29 x
  | .t31, x => sh_31 x
  | .t91, x => sh_91 x
  | .t95, x => sh_95 x
  | .t114, x => sh_114 x
  | .t47, x => sh_47 x
  | .t96, x => sh_96 x
  | .t4, x => sh_4 x
  | .t98, x => sh_98 x
  | .t131, x => sh_131 x
  | .t99, x => sh_99 x
  | .t101, x => sh_101 x
  | .t103, x => sh_103 x
  | .t121, x => sh_121 x
  | .t5, x => sh_5 x
  | .t22, x => sh_22 x
def G : CodG Th where
  lay c := lay' (tg c)
  ty c := ty' (tg c)
  to c x := to' (tg c) x
  fr c y := fr' (tg c) y
  avs c x := avs' (tg c) x
abbrev C : Cod Th := G.cod
theorem av' : ∀ (t : Tg) (x : tgT t), (cellsG (ty' t) (to' t x)).map (SV.av G.cod) = avs' t x := by intro t x; cases t <;> rfl
theorem gok : CodGOk G := ⟨fun c => (by cases h : tg c <;> simp only [G, h] <;> rfl), fun c y => (to_fr' (tg c) y), fun c x => av' (tg c) x, fun c x a h => shL_mem (shut' (tg c) x) a h, fun c x => fr_to' (tg c) x⟩
where
  fr_to' : ∀ (t : Tg) (x : tgT t), fr' t (to' t x) = x := by intro t x; cases t <;> rfl
  to_fr' : ∀ (t : Tg) (y : Tup Th (ty' t)), to' t (fr' t y) = y := by intro t y; cases t <;> rfl
end Go.Proofs.Cdn
