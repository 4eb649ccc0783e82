/- A part of a law's proof: DnlTy. -/
import Derived.Test.YtcikjedghklcoaaGreatSvCod
set_option linter.unusedSimpArgs false
set_option linter.constructorNameAsVariable false
namespace Go.Proofs.Dnl
open Go Go.Ab
set_option linter.unusedVariables false
structure Packet where
  To : Int
  From : Int
  Vlan : Int
  Type_ : Int
  Src : Int
  Dst : Int
  Life : Int
  Proto : Int
  Sport : Int
  Dport : Int
  Data : (List UInt8)
  deriving DecidableEq, Inhabited
structure pipe_Out where
  Port : Int
  P : Packet
  deriving DecidableEq, Inhabited
structure wire_Meter where
  ID : Int
  Rate : Int
  Burst : Int
  deriving DecidableEq, Inhabited
structure Test where
  Field : Int
  Value : Int
  Mask : Int
  deriving DecidableEq, Inhabited
structure Action where
  Kind : Int
  Field : Int
  Value : Int
  deriving DecidableEq, Inhabited
structure Entry where
  Table : Int
  Priority : Int
  Tests : (List Test)
  Apply : (List Action)
  Write : (List Action)
  Clear : Bool
  Meta : Int
  MetaMask : Int
  Meter : Int
  Goto : Int
  deriving DecidableEq, Inhabited
structure Bucket where
  Watch : Int
  Weight : Int
  Actions : (List Action)
  deriving DecidableEq, Inhabited
structure Group where
  ID : Int
  Kind : Int
  Buckets : (List Bucket)
  deriving DecidableEq, Inhabited
structure wire_Message where
  Kind : Int
  Xid : Int
  Command : Int
  Check : Bool
  Entry : Entry
  Group : Group
  Meter : wire_Meter
  Type_ : Int
  Code : Int
  Port : Int
  Live : Bool
  Actions : (List Action)
  Data : (List UInt8)
  deriving DecidableEq, Inhabited
structure device_why where
  kind : Int
  code : Int
  deriving DecidableEq, Inhabited
structure field_Seen where
  In : Int
  Meta : Int
  P : Packet
  deriving DecidableEq, Inhabited
structure meter_Bucket where
  rate : Int
  burst : Int
  left : Int
  deriving DecidableEq, Inhabited
structure frame_sums where
  head : Int
  part : Int
  deriving DecidableEq, Inhabited
structure wire_reader where
  rest : (List UInt8)
  deriving DecidableEq, Inhabited
structure nums_Reader where
  rest : (List UInt8)
  err : Int
  deriving DecidableEq, Inhabited
inductive Tg where
  | no
  | t9
  | t3
  | t46
  | t67
  | t69
  | t226
  | t4
  | t40
  | t189
  | t170
  | t44
  | t45
  | t48
  | t185
  | t49
  | t51
  | t53
  | t58
  | t74
  | t5
  | t99
  | t101
  | t136
  | t54
  | t217
def tg (c : Nat) : Tg :=
  bif Nat.beq c 9 then .t9 else
  bif Nat.beq c 3 then .t3 else
  bif Nat.beq c 46 then .t46 else
  bif Nat.beq c 67 then .t67 else
  bif Nat.beq c 69 then .t69 else
  bif Nat.beq c 226 then .t226 else
  bif Nat.beq c 4 then .t4 else
  bif Nat.beq c 40 then .t40 else
  bif Nat.beq c 189 then .t189 else
  bif Nat.beq c 170 then .t170 else
  bif Nat.beq c 44 then .t44 else
  bif Nat.beq c 45 then .t45 else
  bif Nat.beq c 48 then .t48 else
  bif Nat.beq c 185 then .t185 else
  bif Nat.beq c 49 then .t49 else
  bif Nat.beq c 51 then .t51 else
  bif Nat.beq c 53 then .t53 else
  bif Nat.beq c 58 then .t58 else
  bif Nat.beq c 74 then .t74 else
  bif Nat.beq c 5 then .t5 else
  bif Nat.beq c 99 then .t99 else
  bif Nat.beq c 101 then .t101 else
  bif Nat.beq c 136 then .t136 else
  bif Nat.beq c 54 then .t54 else
  bif Nat.beq c 217 then .t217 else
  .no
@[reducible] def tgT : Tg -> Type
  | .no => Bool
  | .t9 => (List UInt8)
  | .t3 => Int
  | .t46 => Int
  | .t67 => Int
  | .t69 => Packet
  | .t226 => pipe_Out
  | .t4 => Bool
  | .t40 => wire_Meter
  | .t189 => Test
  | .t170 => Action
  | .t44 => (List Test)
  | .t45 => (List Action)
  | .t48 => Entry
  | .t185 => Bucket
  | .t49 => (List Bucket)
  | .t51 => Group
  | .t53 => wire_Message
  | .t58 => device_why
  | .t74 => field_Seen
  | .t5 => Int
  | .t99 => meter_Bucket
  | .t101 => frame_sums
  | .t136 => wire_reader
  | .t54 => Int
  | .t217 => nums_Reader
@[reducible] def Th (c : Nat) : Type := tgT (tg c)
def lay' : Tg -> Option Nat
  | .no => none
  | .t9 => none
  | .t3 => none
  | .t46 => none
  | .t67 => none
  | .t69 => some 11
  | .t226 => some 12
  | .t4 => none
  | .t40 => some 3
  | .t189 => some 3
  | .t170 => some 3
  | .t44 => none
  | .t45 => none
  | .t48 => some 10
  | .t185 => some 3
  | .t49 => none
  | .t51 => some 3
  | .t53 => some 26
  | .t58 => some 2
  | .t74 => some 13
  | .t5 => none
  | .t99 => some 3
  | .t101 => some 2
  | .t136 => some 1
  | .t54 => none
  | .t217 => some 2
@[reducible] def ty' : Tg -> List Ty
  | .no => [.b]
  | .t9 => [.s]
  | .t3 => [.i .i64]
  | .t46 => [.i .u64]
  | .t67 => [.i .u32]
  | .t69 => [.i .u64, .i .u64, .i .i64, .i .i64, .i .u32, .i .u32, .i .i64, .i .i64, .i .i64, .i .i64, .s]
  | .t226 => [.i .i64, .i .u64, .i .u64, .i .i64, .i .i64, .i .u32, .i .u32, .i .i64, .i .i64, .i .i64, .i .i64, .s]
  | .t4 => [.b]
  | .t40 => [.i .i64, .i .i64, .i .i64]
  | .t189 => [.i .i64, .i .u64, .i .u64]
  | .t170 => [.i .i64, .i .i64, .i .u64]
  | .t44 => [.l 189]
  | .t45 => [.l 170]
  | .t48 => [.i .i64, .i .i64, .l 189, .l 170, .l 170, .b, .i .u64, .i .u64, .i .i64, .i .i64]
  | .t185 => [.i .i64, .i .i64, .l 170]
  | .t49 => [.l 185]
  | .t51 => [.i .i64, .i .i64, .l 185]
  | .t53 => [.i .i64, .i .i64, .i .i64, .b, .i .i64, .i .i64, .l 189, .l 170, .l 170, .b, .i .u64, .i .u64, .i .i64, .i .i64, .i .i64, .i .i64, .l 185, .i .i64, .i .i64, .i .i64, .i .i64, .i .i64, .i .i64, .b, .l 170, .s]
  | .t58 => [.i .i64, .i .i64]
  | .t74 => [.i .i64, .i .u64, .i .u64, .i .u64, .i .i64, .i .i64, .i .u32, .i .u32, .i .i64, .i .i64, .i .i64, .i .i64, .s]
  | .t5 => [.i .u8]
  | .t99 => [.i .u64, .i .u64, .i .u64]
  | .t101 => [.i .i64, .i .i64]
  | .t136 => [.s]
  | .t54 => [.i .i64]
  | .t217 => [.s, .i .i64]
def to' : (t : Tg) -> tgT t -> Tup Th (ty' t)
  | .no, x => (x, ())
  | .t9, x => (x, ())
  | .t3, x => (x, ())
  | .t46, x => (x, ())
  | .t67, x => (x, ())
  | .t69, x => (x.To, x.From, x.Vlan, x.Type_, x.Src, x.Dst, x.Life, x.Proto, x.Sport, x.Dport, x.Data, ())
  | .t226, x => (x.Port, x.P.To, x.P.From, x.P.Vlan, x.P.Type_, x.P.Src, x.P.Dst, x.P.Life, x.P.Proto, x.P.Sport, x.P.Dport, x.P.Data, ())
  | .t4, x => (x, ())
  | .t40, x => (x.ID, x.Rate, x.Burst, ())
  | .t189, x => (x.Field, x.Value, x.Mask, ())
  | .t170, x => (x.Kind, x.Field, x.Value, ())
  | .t44, x => (x, ())
  | .t45, x => (x, ())
  | .t48, x => (x.Table, x.Priority, x.Tests, x.Apply, x.Write, x.Clear, x.Meta, x.MetaMask, x.Meter, x.Goto, ())
  | .t185, x => (x.Watch, x.Weight, x.Actions, ())
  | .t49, x => (x, ())
  | .t51, x => (x.ID, x.Kind, x.Buckets, ())
  | .t53, x => (x.Kind, x.Xid, x.Command, x.Check, x.Entry.Table, x.Entry.Priority, x.Entry.Tests, x.Entry.Apply, x.Entry.Write, x.Entry.Clear, x.Entry.Meta, x.Entry.MetaMask, x.Entry.Meter, x.Entry.Goto, x.Group.ID, x.Group.Kind, x.Group.Buckets, x.Meter.ID, x.Meter.Rate, x.Meter.Burst, x.Type_, x.Code, x.Port, x.Live, x.Actions, x.Data, ())
  | .t58, x => (x.kind, x.code, ())
  | .t74, x => (x.In, x.Meta, x.P.To, x.P.From, x.P.Vlan, x.P.Type_, x.P.Src, x.P.Dst, x.P.Life, x.P.Proto, x.P.Sport, x.P.Dport, x.P.Data, ())
  | .t5, x => (x, ())
  | .t99, x => (x.rate, x.burst, x.left, ())
  | .t101, x => (x.head, x.part, ())
  | .t136, x => (x.rest, ())
  | .t54, x => (x, ())
  | .t217, x => (x.rest, x.err, ())
def fr' : (t : Tg) -> Tup Th (ty' t) -> tgT t
  | .no, y => y.1
  | .t9, y => y.1
  | .t3, y => y.1
  | .t46, y => y.1
  | .t67, y => y.1
  | .t69, y => ⟨y.1, y.2.1, y.2.2.1, y.2.2.2.1, y.2.2.2.2.1, y.2.2.2.2.2.1, y.2.2.2.2.2.2.1, y.2.2.2.2.2.2.2.1, y.2.2.2.2.2.2.2.2.1, y.2.2.2.2.2.2.2.2.2.1, y.2.2.2.2.2.2.2.2.2.2.1⟩
  | .t226, y => ⟨y.1, ⟨y.2.1, y.2.2.1, y.2.2.2.1, y.2.2.2.2.1, y.2.2.2.2.2.1, y.2.2.2.2.2.2.1, y.2.2.2.2.2.2.2.1, y.2.2.2.2.2.2.2.2.1, y.2.2.2.2.2.2.2.2.2.1, y.2.2.2.2.2.2.2.2.2.2.1, y.2.2.2.2.2.2.2.2.2.2.2.1⟩⟩
  | .t4, y => y.1
  | .t40, y => ⟨y.1, y.2.1, y.2.2.1⟩
  | .t189, y => ⟨y.1, y.2.1, y.2.2.1⟩
  | .t170, y => ⟨y.1, y.2.1, y.2.2.1⟩
  | .t44, y => y.1
  | .t45, y => y.1
  | .t48, y => ⟨y.1, y.2.1, y.2.2.1, y.2.2.2.1, y.2.2.2.2.1, y.2.2.2.2.2.1, y.2.2.2.2.2.2.1, y.2.2.2.2.2.2.2.1, y.2.2.2.2.2.2.2.2.1, y.2.2.2.2.2.2.2.2.2.1⟩
  | .t185, y => ⟨y.1, y.2.1, y.2.2.1⟩
  | .t49, y => y.1
  | .t51, y => ⟨y.1, y.2.1, y.2.2.1⟩
  | .t53, y => ⟨y.1, y.2.1, y.2.2.1, y.2.2.2.1, ⟨y.2.2.2.2.1, y.2.2.2.2.2.1, y.2.2.2.2.2.2.1, y.2.2.2.2.2.2.2.1, y.2.2.2.2.2.2.2.2.1, y.2.2.2.2.2.2.2.2.2.1, y.2.2.2.2.2.2.2.2.2.2.1, y.2.2.2.2.2.2.2.2.2.2.2.1, y.2.2.2.2.2.2.2.2.2.2.2.2.1, y.2.2.2.2.2.2.2.2.2.2.2.2.2.1⟩, ⟨y.2.2.2.2.2.2.2.2.2.2.2.2.2.2.1, y.2.2.2.2.2.2.2.2.2.2.2.2.2.2.2.1, y.2.2.2.2.2.2.2.2.2.2.2.2.2.2.2.2.1⟩, ⟨y.2.2.2.2.2.2.2.2.2.2.2.2.2.2.2.2.2.1, y.2.2.2.2.2.2.2.2.2.2.2.2.2.2.2.2.2.2.1, y.2.2.2.2.2.2.2.2.2.2.2.2.2.2.2.2.2.2.2.1⟩, y.2.2.2.2.2.2.2.2.2.2.2.2.2.2.2.2.2.2.2.2.1, y.2.2.2.2.2.2.2.2.2.2.2.2.2.2.2.2.2.2.2.2.2.1, y.2.2.2.2.2.2.2.2.2.2.2.2.2.2.2.2.2.2.2.2.2.2.1, y.2.2.2.2.2.2.2.2.2.2.2.2.2.2.2.2.2.2.2.2.2.2.2.1, y.2.2.2.2.2.2.2.2.2.2.2.2.2.2.2.2.2.2.2.2.2.2.2.2.1, y.2.2.2.2.2.2.2.2.2.2.2.2.2.2.2.2.2.2.2.2.2.2.2.2.2.1⟩
  | .t58, y => ⟨y.1, y.2.1⟩
  | .t74, y => ⟨y.1, y.2.1, ⟨y.2.2.1, y.2.2.2.1, y.2.2.2.2.1, y.2.2.2.2.2.1, y.2.2.2.2.2.2.1, y.2.2.2.2.2.2.2.1, y.2.2.2.2.2.2.2.2.1, y.2.2.2.2.2.2.2.2.2.1, y.2.2.2.2.2.2.2.2.2.2.1, y.2.2.2.2.2.2.2.2.2.2.2.1, y.2.2.2.2.2.2.2.2.2.2.2.2.1⟩⟩
  | .t5, y => y.1
  | .t99, y => ⟨y.1, y.2.1, y.2.2.1⟩
  | .t101, y => ⟨y.1, y.2.1⟩
  | .t136, y => ⟨y.1⟩
  | .t54, y => y.1
  | .t217, y => ⟨y.1, y.2.1⟩
def avs_9 (x : (List UInt8)) : List AV := [.v (bytesV x)]
theorem sh_9 (x : (List UInt8)) : AV.shut.shutL (avs_9 x) = true := shL_cons rfl (shL_nil)
def avs_3 (x : Int) : List AV := [.v (.int .i64 x)]
theorem sh_3 (x : Int) : AV.shut.shutL (avs_3 x) = true := shL_cons rfl (shL_nil)
def avs_46 (x : Int) : List AV := [.v (.int .u64 x)]
theorem sh_46 (x : Int) : AV.shut.shutL (avs_46 x) = true := shL_cons rfl (shL_nil)
def avs_67 (x : Int) : List AV := [.v (.int .u32 x)]
theorem sh_67 (x : Int) : AV.shut.shutL (avs_67 x) = true := shL_cons rfl (shL_nil)
def avs_69 (x : Packet) : List AV := [.v (.int .u64 x.To), .v (.int .u64 x.From), .v (.int .i64 x.Vlan), .v (.int .i64 x.Type_), .v (.int .u32 x.Src), .v (.int .u32 x.Dst), .v (.int .i64 x.Life), .v (.int .i64 x.Proto), .v (.int .i64 x.Sport), .v (.int .i64 x.Dport), .v (bytesV x.Data)]
theorem sh_69 (x : Packet) : AV.shut.shutL (avs_69 x) = true := shL_cons rfl (shL_cons rfl (shL_cons rfl (shL_cons rfl (shL_cons rfl (shL_cons rfl (shL_cons rfl (shL_cons rfl (shL_cons rfl (shL_cons rfl (shL_cons rfl (shL_nil)))))))))))
def avs_226 (x : pipe_Out) : List AV := [.v (.int .i64 x.Port), .v (.int .u64 x.P.To), .v (.int .u64 x.P.From), .v (.int .i64 x.P.Vlan), .v (.int .i64 x.P.Type_), .v (.int .u32 x.P.Src), .v (.int .u32 x.P.Dst), .v (.int .i64 x.P.Life), .v (.int .i64 x.P.Proto), .v (.int .i64 x.P.Sport), .v (.int .i64 x.P.Dport), .v (bytesV x.P.Data)]
theorem sh_226 (x : pipe_Out) : AV.shut.shutL (avs_226 x) = true := shL_cons rfl (shL_cons rfl (shL_cons rfl (shL_cons rfl (shL_cons rfl (shL_cons rfl (shL_cons rfl (shL_cons rfl (shL_cons rfl (shL_cons rfl (shL_cons rfl (shL_cons rfl (shL_nil))))))))))))
def avs_4 (x : Bool) : List AV := [.v (.bool x)]
theorem sh_4 (x : Bool) : AV.shut.shutL (avs_4 x) = true := shL_cons rfl (shL_nil)
def avs_40 (x : wire_Meter) : List AV := [.v (.int .i64 x.ID), .v (.int .i64 x.Rate), .v (.int .i64 x.Burst)]
theorem sh_40 (x : wire_Meter) : AV.shut.shutL (avs_40 x) = true := shL_cons rfl (shL_cons rfl (shL_cons rfl (shL_nil)))
def avs_189 (x : Test) : List AV := [.v (.int .i64 x.Field), .v (.int .u64 x.Value), .v (.int .u64 x.Mask)]
theorem sh_189 (x : Test) : AV.shut.shutL (avs_189 x) = true := shL_cons rfl (shL_cons rfl (shL_cons rfl (shL_nil)))
theorem sw_189 (x : Test) : (wrapA (lay' (tg 189)) (avs_189 x)).shut = true := sh_189 x
def avs_170 (x : Action) : List AV := [.v (.int .i64 x.Kind), .v (.int .i64 x.Field), .v (.int .u64 x.Value)]
theorem sh_170 (x : Action) : AV.shut.shutL (avs_170 x) = true := shL_cons rfl (shL_cons rfl (shL_cons rfl (shL_nil)))
theorem sw_170 (x : Action) : (wrapA (lay' (tg 170)) (avs_170 x)).shut = true := sh_170 x
def avs_44 (x : (List Test)) : List AV := [.lst (lay' (tg 189) |> laySize) (x.map fun y => wrapA (lay' (tg 189)) (avs_189 y))]
theorem sh_44 (x : (List Test)) : AV.shut.shutL (avs_44 x) = true := shL_cons (shL_map fun y => sw_189 y) (shL_nil)
def avs_45 (x : (List Action)) : List AV := [.lst (lay' (tg 170) |> laySize) (x.map fun y => wrapA (lay' (tg 170)) (avs_170 y))]
theorem sh_45 (x : (List Action)) : AV.shut.shutL (avs_45 x) = true := shL_cons (shL_map fun y => sw_170 y) (shL_nil)
def avs_48 (x : Entry) : List AV := [.v (.int .i64 x.Table), .v (.int .i64 x.Priority), .lst (lay' (tg 189) |> laySize) (x.Tests.map fun y => wrapA (lay' (tg 189)) (avs_189 y)), .lst (lay' (tg 170) |> laySize) (x.Apply.map fun y => wrapA (lay' (tg 170)) (avs_170 y)), .lst (lay' (tg 170) |> laySize) (x.Write.map fun y => wrapA (lay' (tg 170)) (avs_170 y)), .v (.bool x.Clear), .v (.int .u64 x.Meta), .v (.int .u64 x.MetaMask), .v (.int .i64 x.Meter), .v (.int .i64 x.Goto)]
theorem sh_48 (x : Entry) : AV.shut.shutL (avs_48 x) = true := shL_cons rfl (shL_cons rfl (shL_cons (shL_map fun y => sw_189 y) (shL_cons (shL_map fun y => sw_170 y) (shL_cons (shL_map fun y => sw_170 y) (shL_cons rfl (shL_cons rfl (shL_cons rfl (shL_cons rfl (shL_cons rfl (shL_nil))))))))))
def avs_185 (x : Bucket) : List AV := [.v (.int .i64 x.Watch), .v (.int .i64 x.Weight), .lst (lay' (tg 170) |> laySize) (x.Actions.map fun y => wrapA (lay' (tg 170)) (avs_170 y))]
theorem sh_185 (x : Bucket) : AV.shut.shutL (avs_185 x) = true := shL_cons rfl (shL_cons rfl (shL_cons (shL_map fun y => sw_170 y) (shL_nil)))
theorem sw_185 (x : Bucket) : (wrapA (lay' (tg 185)) (avs_185 x)).shut = true := sh_185 x
def avs_49 (x : (List Bucket)) : List AV := [.lst (lay' (tg 185) |> laySize) (x.map fun y => wrapA (lay' (tg 185)) (avs_185 y))]
theorem sh_49 (x : (List Bucket)) : AV.shut.shutL (avs_49 x) = true := shL_cons (shL_map fun y => sw_185 y) (shL_nil)
def avs_51 (x : Group) : List AV := [.v (.int .i64 x.ID), .v (.int .i64 x.Kind), .lst (lay' (tg 185) |> laySize) (x.Buckets.map fun y => wrapA (lay' (tg 185)) (avs_185 y))]
theorem sh_51 (x : Group) : AV.shut.shutL (avs_51 x) = true := shL_cons rfl (shL_cons rfl (shL_cons (shL_map fun y => sw_185 y) (shL_nil)))
def avs_53 (x : wire_Message) : List AV := [.v (.int .i64 x.Kind), .v (.int .i64 x.Xid), .v (.int .i64 x.Command), .v (.bool x.Check), .v (.int .i64 x.Entry.Table), .v (.int .i64 x.Entry.Priority), .lst (lay' (tg 189) |> laySize) (x.Entry.Tests.map fun y => wrapA (lay' (tg 189)) (avs_189 y)), .lst (lay' (tg 170) |> laySize) (x.Entry.Apply.map fun y => wrapA (lay' (tg 170)) (avs_170 y)), .lst (lay' (tg 170) |> laySize) (x.Entry.Write.map fun y => wrapA (lay' (tg 170)) (avs_170 y)), .v (.bool x.Entry.Clear), .v (.int .u64 x.Entry.Meta), .v (.int .u64 x.Entry.MetaMask), .v (.int .i64 x.Entry.Meter), .v (.int .i64 x.Entry.Goto), .v (.int .i64 x.Group.ID), .v (.int .i64 x.Group.Kind), .lst (lay' (tg 185) |> laySize) (x.Group.Buckets.map fun y => wrapA (lay' (tg 185)) (avs_185 y)), .v (.int .i64 x.Meter.ID), .v (.int .i64 x.Meter.Rate), .v (.int .i64 x.Meter.Burst), .v (.int .i64 x.Type_), .v (.int .i64 x.Code), .v (.int .i64 x.Port), .v (.bool x.Live), .lst (lay' (tg 170) |> laySize) (x.Actions.map fun y => wrapA (lay' (tg 170)) (avs_170 y)), .v (bytesV x.Data)]
theorem sh_53 (x : wire_Message) : AV.shut.shutL (avs_53 x) = true := shL_cons rfl (shL_cons rfl (shL_cons rfl (shL_cons rfl (shL_cons rfl (shL_cons rfl (shL_cons (shL_map fun y => sw_189 y) (shL_cons (shL_map fun y => sw_170 y) (shL_cons (shL_map fun y => sw_170 y) (shL_cons rfl (shL_cons rfl (shL_cons rfl (shL_cons rfl (shL_cons rfl (shL_cons rfl (shL_cons rfl (shL_cons (shL_map fun y => sw_185 y) (shL_cons rfl (shL_cons rfl (shL_cons rfl (shL_cons rfl (shL_cons rfl (shL_cons rfl (shL_cons rfl (shL_cons (shL_map fun y => sw_170 y) (shL_cons rfl (shL_nil))))))))))))))))))))))))))
def avs_58 (x : device_why) : List AV := [.v (.int .i64 x.kind), .v (.int .i64 x.code)]
theorem sh_58 (x : device_why) : AV.shut.shutL (avs_58 x) = true := shL_cons rfl (shL_cons rfl (shL_nil))
def avs_74 (x : field_Seen) : List AV := [.v (.int .i64 x.In), .v (.int .u64 x.Meta), .v (.int .u64 x.P.To), .v (.int .u64 x.P.From), .v (.int .i64 x.P.Vlan), .v (.int .i64 x.P.Type_), .v (.int .u32 x.P.Src), .v (.int .u32 x.P.Dst), .v (.int .i64 x.P.Life), .v (.int .i64 x.P.Proto), .v (.int .i64 x.P.Sport), .v (.int .i64 x.P.Dport), .v (bytesV x.P.Data)]
theorem sh_74 (x : field_Seen) : AV.shut.shutL (avs_74 x) = true := shL_cons rfl (shL_cons rfl (shL_cons rfl (shL_cons rfl (shL_cons rfl (shL_cons rfl (shL_cons rfl (shL_cons rfl (shL_cons rfl (shL_cons rfl (shL_cons rfl (shL_cons rfl (shL_cons rfl (shL_nil)))))))))))))
def avs_5 (x : Int) : List AV := [.v (.int .u8 x)]
theorem sh_5 (x : Int) : AV.shut.shutL (avs_5 x) = true := shL_cons rfl (shL_nil)
def avs_99 (x : meter_Bucket) : List AV := [.v (.int .u64 x.rate), .v (.int .u64 x.burst), .v (.int .u64 x.left)]
theorem sh_99 (x : meter_Bucket) : AV.shut.shutL (avs_99 x) = true := shL_cons rfl (shL_cons rfl (shL_cons rfl (shL_nil)))
def avs_101 (x : frame_sums) : List AV := [.v (.int .i64 x.head), .v (.int .i64 x.part)]
theorem sh_101 (x : frame_sums) : AV.shut.shutL (avs_101 x) = true := shL_cons rfl (shL_cons rfl (shL_nil))
def avs_136 (x : wire_reader) : List AV := [.v (bytesV x.rest)]
theorem sh_136 (x : wire_reader) : AV.shut.shutL (avs_136 x) = true := shL_cons rfl (shL_nil)
def avs_54 (x : Int) : List AV := [.v (.int .i64 x)]
theorem sh_54 (x : Int) : AV.shut.shutL (avs_54 x) = true := shL_cons rfl (shL_nil)
def avs_217 (x : nums_Reader) : List AV := [.v (bytesV x.rest), .v (.int .i64 x.err)]
theorem sh_217 (x : nums_Reader) : AV.shut.shutL (avs_217 x) = true := shL_cons rfl (shL_cons rfl (shL_nil))
def avs' : (t : Tg) -> tgT t -> List AV
  | .no, x => [.v (.bool x)]
  | .t9, x => avs_9 x
  | .t3, x => avs_3 x
  | .t46, x => avs_46 x
  | .t67, x => avs_67 x
  | .t69, x => avs_69 x
  | .t226, x => avs_226 x
  | .t4, x => avs_4 x
  | .t40, x => avs_40 x
  | .t189, x => avs_189 x
  | .t170, x => avs_170 x
  | .t44, x => avs_44 x
  | .t45, x => avs_45 x
  | .t48, x => avs_48 x
  | .t185, x => avs_185 x
  | .t49, x => avs_49 x
  | .t51, x => avs_51 x
  | .t53, x => avs_53 x
  | .t58, x => avs_58 x
  | .t74, x => avs_74 x
  | .t5, x => avs_5 x
  | .t99, x => avs_99 x
  | .t101, x => avs_101 x
  | .t136, x => avs_136 x
  | .t54, x => avs_54 x
  | .t217, x => avs_217 x
theorem shut' : ∀ (t : Tg) (x : tgT t), AV.shut.shutL (avs' t x) = true
  | .no, x => rfl
  | .t9, x => sh_9 x
  | .t3, x => sh_3 x
  | .t46, x => sh_46 x
  | .t67, x => sh_67 x
  | .t69, x => sh_69 x
  | .t226, x => sh_226 x
  | .t4, x => sh_4 x
  | .t40, x => sh_40 x
  | .t189, x => sh_189 x
  | .t170, x => sh_170 x
  | .t44, x => sh_44 x
  | .t45, x => sh_45 x
  | .t48, x => sh_48 x
  | .t185, x => sh_185 x
  | .t49, x => sh_49 x
  | .t51, x => sh_51 x
  | .t53, x => sh_53 x
  | .t58, x => sh_58 x
  | .t74, x => sh_74 x
  | .t5, x => sh_5 x
  | .t99, x => sh_99 x
  | .t101, x => sh_101 x
  | .t136, x => sh_136 x
  | .t54, x => sh_54 x
  | .t217, x => sh_217 x
def G : CodG Th where
  lay c := lay' (tg c)
  ty c := ty' (tg c)
  to c x := to' (tg c) x
  fr c y := fr' (tg c) y
  avs c x := avs' (tg c) x
abbrev C : Cod Th := G.cod
theorem av' : ∀ (t : Tg) (x : tgT t), (cellsG (ty' t) (to' t x)).map (SV.av G.cod) = avs' t x := by intro t x; cases t <;> rfl
theorem gok : CodGOk G := ⟨fun c => (by cases h : tg c <;> simp only [G, h] <;> rfl), fun c y => (to_fr' (tg c) y), fun c x => av' (tg c) x, fun c x a h => shL_mem (shut' (tg c) x) a h, fun c x => fr_to' (tg c) x⟩
where
  fr_to' : ∀ (t : Tg) (x : tgT t), fr' t (to' t x) = x := by intro t x; cases t <;> rfl
  to_fr' : ∀ (t : Tg) (y : Tup Th (ty' t)), to' t (fr' t y) = y := by intro t y; cases t <;> rfl
end Go.Proofs.Dnl
