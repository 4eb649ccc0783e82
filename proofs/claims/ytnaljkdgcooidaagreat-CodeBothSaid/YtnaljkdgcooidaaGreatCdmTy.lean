/- A part of a law's proof: CdmTy. -/
import Derived.Test.YtnaljkdgcooidaaGreatSvCod
set_option linter.unusedSimpArgs false
set_option linter.constructorNameAsVariable false
namespace Go.Proofs.Cdm
open Go Go.Ab
set_option linter.unusedVariables false
structure Test where
  Field : Int
  Value : Int
  Mask : Int
  deriving DecidableEq, Inhabited
structure plan_Start where
  Job : Int
  From : Int
  Host : Int
  Node : Int
  deriving DecidableEq, Inhabited
structure plan_Node where
  Switch : Int
  Job : Int
  Host : Int
  State : Int
  Down : (List Int)
  deriving DecidableEq, Inhabited
structure plan_Hop where
  Port : Int
  Node : Int
  deriving DecidableEq, Inhabited
structure plan_Plan where
  Nodes : (List plan_Node)
  Hops : (List (List plan_Hop))
  Starts : (List plan_Start)
  deriving DecidableEq, Inhabited
structure code_Rule where
  Cubes : (List (List Test))
  Rate : Int
  Room : Int
  deriving DecidableEq, Inhabited
structure topo_place where
  sw : Int
  port : Int
  deriving DecidableEq, Inhabited
structure topo_end where
  place : topo_place
  link : Int
  deriving DecidableEq, Inhabited
structure wire_Meter where
  ID : Int
  Rate : Int
  Burst : Int
  deriving DecidableEq, Inhabited
structure Action where
  Kind : Int
  Field : Int
  Value : Int
  deriving DecidableEq, Inhabited
structure Entry where
  Table : Int
  Priority : Int
  Tests : (List Test)
  Apply : (List Action)
  Write : (List Action)
  Clear : Bool
  Meta : Int
  MetaMask : Int
  Meter : Int
  Goto : Int
  deriving DecidableEq, Inhabited
structure Bucket where
  Watch : Int
  Weight : Int
  Actions : (List Action)
  deriving DecidableEq, Inhabited
structure Group where
  ID : Int
  Kind : Int
  Buckets : (List Bucket)
  deriving DecidableEq, Inhabited
structure wire_Message where
  Kind : Int
  Xid : Int
  Command : Int
  Check : Bool
  Entry : Entry
  Group : Group
  Meter : wire_Meter
  Type_ : Int
  Code : Int
  Port : Int
  Live : Bool
  Actions : (List Action)
  Data : (List UInt8)
  deriving DecidableEq, Inhabited
inductive Tg where
  | no
  | t3
  | t33
  | t35
  | t9
  | t73
  | t44
  | t96
  | t98
  | t102
  | t99
  | t46
  | t47
  | t45
  | t49
  | t24
  | t69
  | t71
  | t85
  | t87
  | t108
  | t127
  | t22
  | t109
  | t4
  | t111
  | t136
  | t112
  | t114
  | t116
  | t5
  | t30
def tg (c : Nat) : Tg :=
  bif Nat.beq c 3 then .t3 else
  bif Nat.beq c 33 then .t33 else
  bif Nat.beq c 35 then .t35 else
  bif Nat.beq c 9 then .t9 else
  bif Nat.beq c 73 then .t73 else
  bif Nat.beq c 44 then .t44 else
  bif Nat.beq c 96 then .t96 else
  bif Nat.beq c 98 then .t98 else
  bif Nat.beq c 102 then .t102 else
  bif Nat.beq c 99 then .t99 else
  bif Nat.beq c 46 then .t46 else
  bif Nat.beq c 47 then .t47 else
  bif Nat.beq c 45 then .t45 else
  bif Nat.beq c 49 then .t49 else
  bif Nat.beq c 24 then .t24 else
  bif Nat.beq c 69 then .t69 else
  bif Nat.beq c 71 then .t71 else
  bif Nat.beq c 85 then .t85 else
  bif Nat.beq c 87 then .t87 else
  bif Nat.beq c 108 then .t108 else
  bif Nat.beq c 127 then .t127 else
  bif Nat.beq c 22 then .t22 else
  bif Nat.beq c 109 then .t109 else
  bif Nat.beq c 4 then .t4 else
  bif Nat.beq c 111 then .t111 else
  bif Nat.beq c 136 then .t136 else
  bif Nat.beq c 112 then .t112 else
  bif Nat.beq c 114 then .t114 else
  bif Nat.beq c 116 then .t116 else
  bif Nat.beq c 5 then .t5 else
  bif Nat.beq c 30 then .t30 else
  .no
@[reducible] def tgT : Tg → Type
  | .no => Bool
  | .t3 => Int
  | .t33 => Int
  | .t35 => Test
  | .t9 => (List UInt8)
  | .t73 => (List (List UInt8))
  | .t44 => plan_Start
  | .t96 => (List Int)
  | .t98 => plan_Node
  | .t102 => plan_Hop
  | .t99 => (List plan_Hop)
  | .t46 => (List plan_Node)
  | .t47 => (List (List plan_Hop))
  | .t45 => (List plan_Start)
  | .t49 => plan_Plan
  | .t24 => (List Test)
  | .t69 => (List (List Test))
  | .t71 => code_Rule
  | .t85 => topo_place
  | .t87 => topo_end
  | .t108 => wire_Meter
  | .t127 => Action
  | .t22 => (List Test)
  | .t109 => (List Action)
  | .t4 => Bool
  | .t111 => Entry
  | .t136 => Bucket
  | .t112 => (List Bucket)
  | .t114 => Group
  | .t116 => wire_Message
  | .t5 => Int
  | .t30 => (List Int)
@[reducible] def Th (c : Nat) : Type := tgT (tg c)
def lay' : Tg → Option Nat
  | .no => none
  | .t3 => none
  | .t33 => none
  | .t35 => some 3
  | .t9 => none
  | .t73 => none
  | .t44 => some 4
  | .t96 => none
  | .t98 => some 5
  | .t102 => some 2
  | .t99 => none
  | .t46 => none
  | .t47 => none
  | .t45 => none
  | .t49 => some 3
  | .t24 => none
  | .t69 => none
  | .t71 => some 3
  | .t85 => some 2
  | .t87 => some 3
  | .t108 => some 3
  | .t127 => some 3
  | .t22 => none
  | .t109 => none
  | .t4 => none
  | .t111 => some 10
  | .t136 => some 3
  | .t112 => none
  | .t114 => some 3
  | .t116 => some 26
  | .t5 => none
  | .t30 => none
@[reducible] def ty' : Tg → List Ty
  | .no => [.b]
  | .t3 => [.i .i64]
  | .t33 => [.i .u64]
  | .t35 => [.i .i64, .i .u64, .i .u64]
  | .t9 => [.s]
  | .t73 => [.l 9]
  | .t44 => [.i .i64, .i .i64, .i .i64, .i .i64]
  | .t96 => [.l 3]
  | .t98 => [.i .i64, .i .i64, .i .i64, .i .i64, .l 3]
  | .t102 => [.i .i64, .i .i64]
  | .t99 => [.l 102]
  | .t46 => [.l 98]
  | .t47 => [.l 99]
  | .t45 => [.l 44]
  | .t49 => [.l 98, .l 99, .l 44]
  | .t24 => [.l 35]
  | .t69 => [.l 24]
  | .t71 => [.l 24, .i .i64, .i .i64]
  | .t85 => [.i .i64, .i .i64]
  | .t87 => [.i .i64, .i .i64, .i .i64]
  | .t108 => [.i .i64, .i .i64, .i .i64]
  | .t127 => [.i .i64, .i .i64, .i .u64]
  | .t22 => [.l 35]
  | .t109 => [.l 127]
  | .t4 => [.b]
  | .t111 => [.i .i64, .i .i64, .l 35, .l 127, .l 127, .b, .i .u64, .i .u64, .i .i64, .i .i64]
  | .t136 => [.i .i64, .i .i64, .l 127]
  | .t112 => [.l 136]
  | .t114 => [.i .i64, .i .i64, .l 136]
  | .t116 => [.i .i64, .i .i64, .i .i64, .b, .i .i64, .i .i64, .l 35, .l 127, .l 127, .b, .i .u64, .i .u64, .i .i64, .i .i64, .i .i64, .i .i64, .l 136, .i .i64, .i .i64, .i .i64, .i .i64, .i .i64, .i .i64, .b, .l 127, .s]
  | .t5 => [.i .u8]
  | .t30 => [.l 33]
def to' : (t : Tg) → tgT t → Tup Th (ty' t)
  | .no, x => (x, ())
  | .t3, x => (x, ())
  | .t33, x => (x, ())
  | .t35, x => (x.Field, x.Value, x.Mask, ())
  | .t9, x => (x, ())
  | .t73, x => (x, ())
  | .t44, x => (x.Job, x.From, x.Host, x.Node, ())
  | .t96, x => (x, ())
  | .t98, x => (x.Switch, x.Job, x.Host, x.State, x.Down, ())
  | .t102, x => (x.Port, x.Node, ())
  | .t99, x => (x, ())
  | .t46, x => (x, ())
  | .t47, x => (x, ())
  | .t45, x => (x, ())
  | .t49, x => (x.Nodes, x.Hops, x.Starts, ())
  | .t24, x => (x, ())
  | .t69, x => (x, ())
  | .t71, x => (x.Cubes, x.Rate, x.Room, ())
  | .t85, x => (x.sw, x.port, ())
  | .t87, x => (x.place.sw, x.place.port, x.link, ())
  | .t108, x => (x.ID, x.Rate, x.Burst, ())
  | .t127, x => (x.Kind, x.Field, x.Value, ())
  | .t22, x => (x, ())
  | .t109, x => (x, ())
  | .t4, x => (x, ())
  | .t111, x => (x.Table, x.Priority, x.Tests, x.Apply, x.Write, x.Clear, x.Meta, x.MetaMask, x.Meter, x.Goto, ())
  | .t136, x => (x.Watch, x.Weight, x.Actions, ())
  | .t112, x => (x, ())
  | .t114, x => (x.ID, x.Kind, x.Buckets, ())
  | .t116, x => (x.Kind, x.Xid, x.Command, x.Check, x.Entry.Table, x.Entry.Priority, x.Entry.Tests, x.Entry.Apply, x.Entry.Write, x.Entry.Clear, x.Entry.Meta, x.Entry.MetaMask, x.Entry.Meter, x.Entry.Goto, x.Group.ID, x.Group.Kind, x.Group.Buckets, x.Meter.ID, x.Meter.Rate, x.Meter.Burst, x.Type_, x.Code, x.Port, x.Live, x.Actions, x.Data, ())
  | .t5, x => (x, ())
  | .t30, x => (x, ())
def fr' : (t : Tg) → Tup Th (ty' t) → tgT t
  | .no, y => y.1
  | .t3, y => y.1
  | .t33, y => y.1
  | .t35, y => ⟨y.1, y.2.1, y.2.2.1⟩
  | .t9, y => y.1
  | .t73, y => y.1
  | .t44, y => ⟨y.1, y.2.1, y.2.2.1, y.2.2.2.1⟩
  | .t96, y => y.1
  | .t98, y => ⟨y.1, y.2.1, y.2.2.1, y.2.2.2.1, y.2.2.2.2.1⟩
  | .t102, y => ⟨y.1, y.2.1⟩
  | .t99, y => y.1
  | .t46, y => y.1
  | .t47, y => y.1
  | .t45, y => y.1
  | .t49, y => ⟨y.1, y.2.1, y.2.2.1⟩
  | .t24, y => y.1
  | .t69, y => y.1
  | .t71, y => ⟨y.1, y.2.1, y.2.2.1⟩
  | .t85, y => ⟨y.1, y.2.1⟩
  | .t87, y => ⟨⟨y.1, y.2.1⟩, y.2.2.1⟩
  | .t108, y => ⟨y.1, y.2.1, y.2.2.1⟩
  | .t127, y => ⟨y.1, y.2.1, y.2.2.1⟩
  | .t22, y => y.1
  | .t109, y => y.1
  | .t4, y => y.1
  | .t111, y => ⟨y.1, y.2.1, y.2.2.1, y.2.2.2.1, y.2.2.2.2.1, y.2.2.2.2.2.1, y.2.2.2.2.2.2.1, y.2.2.2.2.2.2.2.1, y.2.2.2.2.2.2.2.2.1, y.2.2.2.2.2.2.2.2.2.1⟩
  | .t136, y => ⟨y.1, y.2.1, y.2.2.1⟩
  | .t112, y => y.1
  | .t114, y => ⟨y.1, y.2.1, y.2.2.1⟩
  | .t116, y => ⟨y.1, y.2.1, y.2.2.1, y.2.2.2.1, ⟨y.2.2.2.2.1, y.2.2.2.2.2.1, y.2.2.2.2.2.2.1, y.2.2.2.2.2.2.2.1, y.2.2.2.2.2.2.2.2.1, y.2.2.2.2.2.2.2.2.2.1, y.2.2.2.2.2.2.2.2.2.2.1, y.2.2.2.2.2.2.2.2.2.2.2.1, y.2.2.2.2.2.2.2.2.2.2.2.2.1, y.2.2.2.2.2.2.2.2.2.2.2.2.2.1⟩, ⟨y.2.2.2.2.2.2.2.2.2.2.2.2.2.2.1, y.2.2.2.2.2.2.2.2.2.2.2.2.2.2.2.1, y.2.2.2.2.2.2.2.2.2.2.2.2.2.2.2.2.1⟩, ⟨y.2.2.2.2.2.2.2.2.2.2.2.2.2.2.2.2.2.1, y.2.2.2.2.2.2.2.2.2.2.2.2.2.2.2.2.2.2.1, y.2.2.2.2.2.2.2.2.2.2.2.2.2.2.2.2.2.2.2.1⟩, y.2.2.2.2.2.2.2.2.2.2.2.2.2.2.2.2.2.2.2.2.1, y.2.2.2.2.2.2.2.2.2.2.2.2.2.2.2.2.2.2.2.2.2.1, y.2.2.2.2.2.2.2.2.2.2.2.2.2.2.2.2.2.2.2.2.2.2.1, y.2.2.2.2.2.2.2.2.2.2.2.2.2.2.2.2.2.2.2.2.2.2.2.1, y.2.2.2.2.2.2.2.2.2.2.2.2.2.2.2.2.2.2.2.2.2.2.2.2.1, y.2.2.2.2.2.2.2.2.2.2.2.2.2.2.2.2.2.2.2.2.2.2.2.2.2.1⟩
  | .t5, y => y.1
  | .t30, y => y.1
def avs_3 (x : Int) : List AV := [.v (.int .i64 x)]
theorem sh_3 (x : Int) : AV.shut.shutL (avs_3 x) = true := shL_cons rfl (shL_nil)
theorem sw_3 (x : Int) : (wrapA (lay' (tg 3)) (avs_3 x)).shut = true := shL_head (sh_3 x)
def avs_33 (x : Int) : List AV := [.v (.int .u64 x)]
theorem sh_33 (x : Int) : AV.shut.shutL (avs_33 x) = true := shL_cons rfl (shL_nil)
theorem sw_33 (x : Int) : (wrapA (lay' (tg 33)) (avs_33 x)).shut = true := shL_head (sh_33 x)
def avs_35 (x : Test) : List AV := [.v (.int .i64 x.Field), .v (.int .u64 x.Value), .v (.int .u64 x.Mask)]
theorem sh_35 (x : Test) : AV.shut.shutL (avs_35 x) = true := shL_cons rfl (shL_cons rfl (shL_cons rfl (shL_nil)))
theorem sw_35 (x : Test) : (wrapA (lay' (tg 35)) (avs_35 x)).shut = true := sh_35 x
def avs_9 (x : (List UInt8)) : List AV := [.v (bytesV x)]
theorem sh_9 (x : (List UInt8)) : AV.shut.shutL (avs_9 x) = true := shL_cons rfl (shL_nil)
theorem sw_9 (x : (List UInt8)) : (wrapA (lay' (tg 9)) (avs_9 x)).shut = true := shL_head (sh_9 x)
def avs_73 (x : (List (List UInt8))) : List AV := [.lst (lay' (tg 9) |> laySize) (x.map fun y => wrapA (lay' (tg 9)) (avs_9 y))]
theorem sh_73 (x : (List (List UInt8))) : AV.shut.shutL (avs_73 x) = true := shL_cons (shL_map fun y => sw_9 y) (shL_nil)
theorem sw_73 (x : (List (List UInt8))) : (wrapA (lay' (tg 73)) (avs_73 x)).shut = true := shL_head (sh_73 x)
def avs_44 (x : plan_Start) : List AV := [.v (.int .i64 x.Job), .v (.int .i64 x.From), .v (.int .i64 x.Host), .v (.int .i64 x.Node)]
theorem sh_44 (x : plan_Start) : AV.shut.shutL (avs_44 x) = true := shL_cons rfl (shL_cons rfl (shL_cons rfl (shL_cons rfl (shL_nil))))
theorem sw_44 (x : plan_Start) : (wrapA (lay' (tg 44)) (avs_44 x)).shut = true := sh_44 x
def avs_96 (x : (List Int)) : List AV := [.lst (lay' (tg 3) |> laySize) (x.map fun y => wrapA (lay' (tg 3)) (avs_3 y))]
theorem sh_96 (x : (List Int)) : AV.shut.shutL (avs_96 x) = true := shL_cons (shL_map fun y => sw_3 y) (shL_nil)
theorem sw_96 (x : (List Int)) : (wrapA (lay' (tg 96)) (avs_96 x)).shut = true := shL_head (sh_96 x)
def avs_98 (x : plan_Node) : List AV := [.v (.int .i64 x.Switch), .v (.int .i64 x.Job), .v (.int .i64 x.Host), .v (.int .i64 x.State), .lst (lay' (tg 3) |> laySize) (x.Down.map fun y => wrapA (lay' (tg 3)) (avs_3 y))]
theorem sh_98 (x : plan_Node) : AV.shut.shutL (avs_98 x) = true := shL_cons rfl (shL_cons rfl (shL_cons rfl (shL_cons rfl (shL_cons (shL_map fun y => sw_3 y) (shL_nil)))))
theorem sw_98 (x : plan_Node) : (wrapA (lay' (tg 98)) (avs_98 x)).shut = true := sh_98 x
def avs_102 (x : plan_Hop) : List AV := [.v (.int .i64 x.Port), .v (.int .i64 x.Node)]
theorem sh_102 (x : plan_Hop) : AV.shut.shutL (avs_102 x) = true := shL_cons rfl (shL_cons rfl (shL_nil))
theorem sw_102 (x : plan_Hop) : (wrapA (lay' (tg 102)) (avs_102 x)).shut = true := sh_102 x
def avs_99 (x : (List plan_Hop)) : List AV := [.lst (lay' (tg 102) |> laySize) (x.map fun y => wrapA (lay' (tg 102)) (avs_102 y))]
theorem sh_99 (x : (List plan_Hop)) : AV.shut.shutL (avs_99 x) = true := shL_cons (shL_map fun y => sw_102 y) (shL_nil)
theorem sw_99 (x : (List plan_Hop)) : (wrapA (lay' (tg 99)) (avs_99 x)).shut = true := shL_head (sh_99 x)
def avs_46 (x : (List plan_Node)) : List AV := [.lst (lay' (tg 98) |> laySize) (x.map fun y => wrapA (lay' (tg 98)) (avs_98 y))]
theorem sh_46 (x : (List plan_Node)) : AV.shut.shutL (avs_46 x) = true := shL_cons (shL_map fun y => sw_98 y) (shL_nil)
theorem sw_46 (x : (List plan_Node)) : (wrapA (lay' (tg 46)) (avs_46 x)).shut = true := shL_head (sh_46 x)
def avs_47 (x : (List (List plan_Hop))) : List AV := [.lst (lay' (tg 99) |> laySize) (x.map fun y => wrapA (lay' (tg 99)) (avs_99 y))]
theorem sh_47 (x : (List (List plan_Hop))) : AV.shut.shutL (avs_47 x) = true := shL_cons (shL_map fun y => sw_99 y) (shL_nil)
theorem sw_47 (x : (List (List plan_Hop))) : (wrapA (lay' (tg 47)) (avs_47 x)).shut = true := shL_head (sh_47 x)
def avs_45 (x : (List plan_Start)) : List AV := [.lst (lay' (tg 44) |> laySize) (x.map fun y => wrapA (lay' (tg 44)) (avs_44 y))]
theorem sh_45 (x : (List plan_Start)) : AV.shut.shutL (avs_45 x) = true := shL_cons (shL_map fun y => sw_44 y) (shL_nil)
theorem sw_45 (x : (List plan_Start)) : (wrapA (lay' (tg 45)) (avs_45 x)).shut = true := shL_head (sh_45 x)
def avs_49 (x : plan_Plan) : List AV := [.lst (lay' (tg 98) |> laySize) (x.Nodes.map fun y => wrapA (lay' (tg 98)) (avs_98 y)), .lst (lay' (tg 99) |> laySize) (x.Hops.map fun y => wrapA (lay' (tg 99)) (avs_99 y)), .lst (lay' (tg 44) |> laySize) (x.Starts.map fun y => wrapA (lay' (tg 44)) (avs_44 y))]
theorem sh_49 (x : plan_Plan) : AV.shut.shutL (avs_49 x) = true := shL_cons (shL_map fun y => sw_98 y) (shL_cons (shL_map fun y => sw_99 y) (shL_cons (shL_map fun y => sw_44 y) (shL_nil)))
theorem sw_49 (x : plan_Plan) : (wrapA (lay' (tg 49)) (avs_49 x)).shut = true := sh_49 x
def avs_24 (x : (List Test)) : List AV := [.lst (lay' (tg 35) |> laySize) (x.map fun y => wrapA (lay' (tg 35)) (avs_35 y))]
theorem sh_24 (x : (List Test)) : AV.shut.shutL (avs_24 x) = true := shL_cons (shL_map fun y => sw_35 y) (shL_nil)
theorem sw_24 (x : (List Test)) : (wrapA (lay' (tg 24)) (avs_24 x)).shut = true := shL_head (sh_24 x)
def avs_69 (x : (List (List Test))) : List AV := [.lst (lay' (tg 24) |> laySize) (x.map fun y => wrapA (lay' (tg 24)) (avs_24 y))]
theorem sh_69 (x : (List (List Test))) : AV.shut.shutL (avs_69 x) = true := shL_cons (shL_map fun y => sw_24 y) (shL_nil)
theorem sw_69 (x : (List (List Test))) : (wrapA (lay' (tg 69)) (avs_69 x)).shut = true := shL_head (sh_69 x)
def avs_71 (x : code_Rule) : List AV := [.lst (lay' (tg 24) |> laySize) (x.Cubes.map fun y => wrapA (lay' (tg 24)) (avs_24 y)), .v (.int .i64 x.Rate), .v (.int .i64 x.Room)]
theorem sh_71 (x : code_Rule) : AV.shut.shutL (avs_71 x) = true := shL_cons (shL_map fun y => sw_24 y) (shL_cons rfl (shL_cons rfl (shL_nil)))
theorem sw_71 (x : code_Rule) : (wrapA (lay' (tg 71)) (avs_71 x)).shut = true := sh_71 x
def avs_85 (x : topo_place) : List AV := [.v (.int .i64 x.sw), .v (.int .i64 x.port)]
theorem sh_85 (x : topo_place) : AV.shut.shutL (avs_85 x) = true := shL_cons rfl (shL_cons rfl (shL_nil))
theorem sw_85 (x : topo_place) : (wrapA (lay' (tg 85)) (avs_85 x)).shut = true := sh_85 x
def avs_87 (x : topo_end) : List AV := [.v (.int .i64 x.place.sw), .v (.int .i64 x.place.port), .v (.int .i64 x.link)]
theorem sh_87 (x : topo_end) : AV.shut.shutL (avs_87 x) = true := shL_cons rfl (shL_cons rfl (shL_cons rfl (shL_nil)))
theorem sw_87 (x : topo_end) : (wrapA (lay' (tg 87)) (avs_87 x)).shut = true := sh_87 x
def avs_108 (x : wire_Meter) : List AV := [.v (.int .i64 x.ID), .v (.int .i64 x.Rate), .v (.int .i64 x.Burst)]
theorem sh_108 (x : wire_Meter) : AV.shut.shutL (avs_108 x) = true := shL_cons rfl (shL_cons rfl (shL_cons rfl (shL_nil)))
theorem sw_108 (x : wire_Meter) : (wrapA (lay' (tg 108)) (avs_108 x)).shut = true := sh_108 x
def avs_127 (x : Action) : List AV := [.v (.int .i64 x.Kind), .v (.int .i64 x.Field), .v (.int .u64 x.Value)]
theorem sh_127 (x : Action) : AV.shut.shutL (avs_127 x) = true := shL_cons rfl (shL_cons rfl (shL_cons rfl (shL_nil)))
theorem sw_127 (x : Action) : (wrapA (lay' (tg 127)) (avs_127 x)).shut = true := sh_127 x
def avs_22 (x : (List Test)) : List AV := [.lst (lay' (tg 35) |> laySize) (x.map fun y => wrapA (lay' (tg 35)) (avs_35 y))]
theorem sh_22 (x : (List Test)) : AV.shut.shutL (avs_22 x) = true := shL_cons (shL_map fun y => sw_35 y) (shL_nil)
theorem sw_22 (x : (List Test)) : (wrapA (lay' (tg 22)) (avs_22 x)).shut = true := shL_head (sh_22 x)
def avs_109 (x : (List Action)) : List AV := [.lst (lay' (tg 127) |> laySize) (x.map fun y => wrapA (lay' (tg 127)) (avs_127 y))]
theorem sh_109 (x : (List Action)) : AV.shut.shutL (avs_109 x) = true := shL_cons (shL_map fun y => sw_127 y) (shL_nil)
theorem sw_109 (x : (List Action)) : (wrapA (lay' (tg 109)) (avs_109 x)).shut = true := shL_head (sh_109 x)
def avs_4 (x : Bool) : List AV := [.v (.bool x)]
theorem sh_4 (x : Bool) : AV.shut.shutL (avs_4 x) = true := shL_cons rfl (shL_nil)
theorem sw_4 (x : Bool) : (wrapA (lay' (tg 4)) (avs_4 x)).shut = true := shL_head (sh_4 x)
def avs_111 (x : Entry) : List AV := [.v (.int .i64 x.Table), .v (.int .i64 x.Priority), .lst (lay' (tg 35) |> laySize) (x.Tests.map fun y => wrapA (lay' (tg 35)) (avs_35 y)), .lst (lay' (tg 127) |> laySize) (x.Apply.map fun y => wrapA (lay' (tg 127)) (avs_127 y)), .lst (lay' (tg 127) |> laySize) (x.Write.map fun y => wrapA (lay' (tg 127)) (avs_127 y)), .v (.bool x.Clear), .v (.int .u64 x.Meta), .v (.int .u64 x.MetaMask), .v (.int .i64 x.Meter), .v (.int .i64 x.Goto)]
theorem sh_111 (x : Entry) : AV.shut.shutL (avs_111 x) = true := shL_cons rfl (shL_cons rfl (shL_cons (shL_map fun y => sw_35 y) (shL_cons (shL_map fun y => sw_127 y) (shL_cons (shL_map fun y => sw_127 y) (shL_cons rfl (shL_cons rfl (shL_cons rfl (shL_cons rfl (shL_cons rfl (shL_nil))))))))))
theorem sw_111 (x : Entry) : (wrapA (lay' (tg 111)) (avs_111 x)).shut = true := sh_111 x
def avs_136 (x : Bucket) : List AV := [.v (.int .i64 x.Watch), .v (.int .i64 x.Weight), .lst (lay' (tg 127) |> laySize) (x.Actions.map fun y => wrapA (lay' (tg 127)) (avs_127 y))]
theorem sh_136 (x : Bucket) : AV.shut.shutL (avs_136 x) = true := shL_cons rfl (shL_cons rfl (shL_cons (shL_map fun y => sw_127 y) (shL_nil)))
theorem sw_136 (x : Bucket) : (wrapA (lay' (tg 136)) (avs_136 x)).shut = true := sh_136 x
def avs_112 (x : (List Bucket)) : List AV := [.lst (lay' (tg 136) |> laySize) (x.map fun y => wrapA (lay' (tg 136)) (avs_136 y))]
theorem sh_112 (x : (List Bucket)) : AV.shut.shutL (avs_112 x) = true := shL_cons (shL_map fun y => sw_136 y) (shL_nil)
theorem sw_112 (x : (List Bucket)) : (wrapA (lay' (tg 112)) (avs_112 x)).shut = true := shL_head (sh_112 x)
def avs_114 (x : Group) : List AV := [.v (.int .i64 x.ID), .v (.int .i64 x.Kind), .lst (lay' (tg 136) |> laySize) (x.Buckets.map fun y => wrapA (lay' (tg 136)) (avs_136 y))]
theorem sh_114 (x : Group) : AV.shut.shutL (avs_114 x) = true := shL_cons rfl (shL_cons rfl (shL_cons (shL_map fun y => sw_136 y) (shL_nil)))
theorem sw_114 (x : Group) : (wrapA (lay' (tg 114)) (avs_114 x)).shut = true := sh_114 x
def avs_116 (x : wire_Message) : List AV := [.v (.int .i64 x.Kind), .v (.int .i64 x.Xid), .v (.int .i64 x.Command), .v (.bool x.Check), .v (.int .i64 x.Entry.Table), .v (.int .i64 x.Entry.Priority), .lst (lay' (tg 35) |> laySize) (x.Entry.Tests.map fun y => wrapA (lay' (tg 35)) (avs_35 y)), .lst (lay' (tg 127) |> laySize) (x.Entry.Apply.map fun y => wrapA (lay' (tg 127)) (avs_127 y)), .lst (lay' (tg 127) |> laySize) (x.Entry.Write.map fun y => wrapA (lay' (tg 127)) (avs_127 y)), .v (.bool x.Entry.Clear), .v (.int .u64 x.Entry.Meta), .v (.int .u64 x.Entry.MetaMask), .v (.int .i64 x.Entry.Meter), .v (.int .i64 x.Entry.Goto), .v (.int .i64 x.Group.ID), .v (.int .i64 x.Group.Kind), .lst (lay' (tg 136) |> laySize) (x.Group.Buckets.map fun y => wrapA (lay' (tg 136)) (avs_136 y)), .v (.int .i64 x.Meter.ID), .v (.int .i64 x.Meter.Rate), .v (.int .i64 x.Meter.Burst), .v (.int .i64 x.Type_), .v (.int .i64 x.Code), .v (.int .i64 x.Port), .v (.bool x.Live), .lst (lay' (tg 127) |> laySize) (x.Actions.map fun y => wrapA (lay' (tg 127)) (avs_127 y)), .v (bytesV x.Data)]
theorem sh_116 (x : wire_Message) : AV.shut.shutL (avs_116 x) = true := shL_cons rfl (shL_cons rfl (shL_cons rfl (shL_cons rfl (shL_cons rfl (shL_cons rfl (shL_cons (shL_map fun y => sw_35 y) (shL_cons (shL_map fun y => sw_127 y) (shL_cons (shL_map fun y => sw_127 y) (shL_cons rfl (shL_cons rfl (shL_cons rfl (shL_cons rfl (shL_cons rfl (shL_cons rfl (shL_cons rfl (shL_cons (shL_map fun y => sw_136 y) (shL_cons rfl (shL_cons rfl (shL_cons rfl (shL_cons rfl (shL_cons rfl (shL_cons rfl (shL_cons rfl (shL_cons (shL_map fun y => sw_127 y) (shL_cons rfl (shL_nil))))))))))))))))))))))))))
theorem sw_116 (x : wire_Message) : (wrapA (lay' (tg 116)) (avs_116 x)).shut = true := sh_116 x
def avs_5 (x : Int) : List AV := [.v (.int .u8 x)]
theorem sh_5 (x : Int) : AV.shut.shutL (avs_5 x) = true := shL_cons rfl (shL_nil)
theorem sw_5 (x : Int) : (wrapA (lay' (tg 5)) (avs_5 x)).shut = true := shL_head (sh_5 x)
def avs_30 (x : (List Int)) : List AV := [.lst (lay' (tg 33) |> laySize) (x.map fun y => wrapA (lay' (tg 33)) (avs_33 y))]
theorem sh_30 (x : (List Int)) : AV.shut.shutL (avs_30 x) = true := shL_cons (shL_map fun y => sw_33 y) (shL_nil)
theorem sw_30 (x : (List Int)) : (wrapA (lay' (tg 30)) (avs_30 x)).shut = true := shL_head (sh_30 x)
def avs' : (t : Tg) → tgT t → List AV
  | .no, x => [.v (.bool x)]
  | .t3, x => avs_3 x
  | .t33, x => avs_33 x
  | .t35, x => avs_35 x
  | .t9, x => avs_9 x
  | .t73, x => avs_73 x
  | .t44, x => avs_44 x
  | .t96, x => avs_96 x
  | .t98, x => avs_98 x
  | .t102, x => avs_102 x
  | .t99, x => avs_99 x
  | .t46, x => avs_46 x
  | .t47, x => avs_47 x
  | .t45, x => avs_45 x
  | .t49, x => avs_49 x
  | .t24, x => avs_24 x
  | .t69, x => avs_69 x
  | .t71, x => avs_71 x
  | .t85, x => avs_85 x
  | .t87, x => avs_87 x
  | .t108, x => avs_108 x
  | .t127, x => avs_127 x
  | .t22, x => avs_22 x
  | .t109, x => avs_109 x
  | .t4, x => avs_4 x
  | .t111, x => avs_111 x
  | .t136, x => avs_136 x
  | .t112, x => avs_112 x
  | .t114, x => avs_114 x
  | .t116, x => avs_116 x
  | .t5, x => avs_5 x
  | .t30, x => avs_30 x
theorem shut' : ∀ (t : Tg) (x : tgT t), AV.shut.shutL (avs' t x) = true
  | .no, x => rfl
  | .t3, x => sh_3 x
  | .t33, x => sh_33 x
  | .t35, x => sh_35 x
  | .t9, x => sh_9 x
  | .t73, x => sh_73 x
  | .t44, x => sh_44 x
  | .t96, x => sh_96 x
  | .t98, x => sh_98 x
  | .t102, x => sh_102 x
  | .t99, x => sh_99 x
  | .t46, x => sh_46 x
  | .t47, x => sh_47 x
  | .t45, x => sh_45 x
  | .t49, x => sh_49 x
  | .t24, x => sh_24 x
  | .t69, x => sh_69 x
  | .t71, x => sh_71 x
  | .t85, x => sh_85 x
  | .t87, x => sh_87 x
  | .t108, x => sh_108 x
  | .t127, x => sh_127 x
  | .t22, x => sh_22 x
  | .t109, x => sh_109 x
  | .t4, x => sh_4 x
  | .t111, x => sh_111 x
  | .t136, x => sh_136 x
  | .t112, x => sh_112 x
  | .t114, x => sh_114 x
  | .t116, x => sh_116 x
  | .t5, x => sh_5 x
  | .t30, x => sh_30 x
def G : CodG Th where
  lay c := lay' (tg c)
  ty c := ty' (tg c)
  to c x := to' (tg c) x
  fr c y := fr' (tg c) y
  avs c x := avs' (tg c) x
abbrev C : Cod Th := G.cod
theorem av' : ∀ (t : Tg) (x : tgT t), (cellsG (ty' t) (to' t x)).map (SV.av G.cod) = avs' t x := by intro t x; cases t <;> rfl
theorem gok : CodGOk G := ⟨fun c => (by cases h : tg c <;> simp only [G, h] <;> rfl), fun c y => (to_fr' (tg c) y), fun c x => av' (tg c) x, fun c x a h => shL_mem (shut' (tg c) x) a h, fun c x => fr_to' (tg c) x⟩
where
  fr_to' : ∀ (t : Tg) (x : tgT t), fr' t (to' t x) = x := by intro t x; cases t <;> rfl
  to_fr' : ∀ (t : Tg) (y : Tup Th (ty' t)), to' t (fr' t y) = y := by intro t y; cases t <;> rfl
end Go.Proofs.Cdm
