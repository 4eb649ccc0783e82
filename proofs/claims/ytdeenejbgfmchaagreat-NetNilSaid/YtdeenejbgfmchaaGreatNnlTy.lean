/- A part of a law's proof: NnlTy. -/
import Derived.Test.YtdeenejbgfmchaaGreatSvCod
set_option linter.unusedSimpArgs false
set_option linter.constructorNameAsVariable false
namespace Go.Proofs.Nnl
open Go Go.Ab
set_option linter.unusedVariables false
structure droverref24_Got where
  Host : Int
  Data : (List UInt8)
  Word : (List Int)
  deriving DecidableEq, Inhabited
structure droverref24_Trace where
  Got : (List droverref24_Got)
  Lost : Int
  Steps : Int
  Left : Bool
  deriving DecidableEq, Inhabited
structure net_Got where
  Host : Int
  Data : (List UInt8)
  Word : (List Int)
  deriving DecidableEq, Inhabited
structure net_Trace where
  Got : (List net_Got)
  Lost : Int
  Steps : Int
  Left : Bool
  deriving DecidableEq, Inhabited
structure net_end where
  sw : Int
  port : Int
  deriving DecidableEq, Inhabited
structure Packet where
  To : Int
  From : Int
  Vlan : Int
  Type_ : Int
  Src : Int
  Dst : Int
  Life : Int
  Proto : Int
  Sport : Int
  Dport : Int
  Data : (List UInt8)
  deriving DecidableEq, Inhabited
structure pipe_Out where
  Port : Int
  P : Packet
  deriving DecidableEq, Inhabited
structure net_Fault where
  Step : Int
  Link : Int
  deriving DecidableEq, Inhabited
structure net_item where
  end_ : net_end
  link : Int
  data : (List UInt8)
  word : (List Int)
  deriving DecidableEq, Inhabited
structure Action where
  Kind : Int
  Field : Int
  Value : Int
  deriving DecidableEq, Inhabited
structure Test where
  Field : Int
  Value : Int
  Mask : Int
  deriving DecidableEq, Inhabited
structure Entry where
  Table : Int
  Priority : Int
  Tests : (List Test)
  Apply : (List Action)
  Write : (List Action)
  Clear : Bool
  Meta : Int
  MetaMask : Int
  Meter : Int
  Goto : Int
  deriving DecidableEq, Inhabited
structure Bucket where
  Watch : Int
  Weight : Int
  Actions : (List Action)
  deriving DecidableEq, Inhabited
structure Group where
  ID : Int
  Kind : Int
  Buckets : (List Bucket)
  deriving DecidableEq, Inhabited
structure wire_Meter where
  ID : Int
  Rate : Int
  Burst : Int
  deriving DecidableEq, Inhabited
structure wire_Message where
  Kind : Int
  Xid : Int
  Command : Int
  Check : Bool
  Entry : Entry
  Group : Group
  Meter : wire_Meter
  Type_ : Int
  Code : Int
  Port : Int
  Live : Bool
  Actions : (List Action)
  Data : (List UInt8)
  deriving DecidableEq, Inhabited
structure topo_place where
  sw : Int
  port : Int
  deriving DecidableEq, Inhabited
structure topo_end where
  place : topo_place
  link : Int
  deriving DecidableEq, Inhabited
structure device_why where
  kind : Int
  code : Int
  deriving DecidableEq, Inhabited
structure frame_sums where
  head : Int
  part : Int
  deriving DecidableEq, Inhabited
structure meter_Bucket where
  rate : Int
  burst : Int
  left : Int
  deriving DecidableEq, Inhabited
structure field_Seen where
  In : Int
  Meta : Int
  P : Packet
  deriving DecidableEq, Inhabited
structure wire_reader where
  rest : (List UInt8)
  deriving DecidableEq, Inhabited
structure nums_Reader where
  rest : (List UInt8)
  err : Int
  deriving DecidableEq, Inhabited
inductive Tg where
  | no
  | t9
  | t3
  | t52
  | t65
  | t31
  | t4
  | t33
  | t66
  | t35
  | t37
  | t58
  | t56
  | t87
  | t102
  | t104
  | t143
  | t77
  | t72
  | t89
  | t248
  | t91
  | t90
  | t93
  | t204
  | t94
  | t96
  | t98
  | t100
  | t124
  | t126
  | t133
  | t5
  | t163
  | t174
  | t183
  | t212
  | t23
  | t319
def tg (c : Nat) : Tg :=
  bif Nat.beq c 9 then .t9 else
  bif Nat.beq c 3 then .t3 else
  bif Nat.beq c 52 then .t52 else
  bif Nat.beq c 65 then .t65 else
  bif Nat.beq c 31 then .t31 else
  bif Nat.beq c 4 then .t4 else
  bif Nat.beq c 33 then .t33 else
  bif Nat.beq c 66 then .t66 else
  bif Nat.beq c 35 then .t35 else
  bif Nat.beq c 37 then .t37 else
  bif Nat.beq c 58 then .t58 else
  bif Nat.beq c 56 then .t56 else
  bif Nat.beq c 87 then .t87 else
  bif Nat.beq c 102 then .t102 else
  bif Nat.beq c 104 then .t104 else
  bif Nat.beq c 143 then .t143 else
  bif Nat.beq c 77 then .t77 else
  bif Nat.beq c 72 then .t72 else
  bif Nat.beq c 89 then .t89 else
  bif Nat.beq c 248 then .t248 else
  bif Nat.beq c 91 then .t91 else
  bif Nat.beq c 90 then .t90 else
  bif Nat.beq c 93 then .t93 else
  bif Nat.beq c 204 then .t204 else
  bif Nat.beq c 94 then .t94 else
  bif Nat.beq c 96 then .t96 else
  bif Nat.beq c 98 then .t98 else
  bif Nat.beq c 100 then .t100 else
  bif Nat.beq c 124 then .t124 else
  bif Nat.beq c 126 then .t126 else
  bif Nat.beq c 133 then .t133 else
  bif Nat.beq c 5 then .t5 else
  bif Nat.beq c 163 then .t163 else
  bif Nat.beq c 174 then .t174 else
  bif Nat.beq c 183 then .t183 else
  bif Nat.beq c 212 then .t212 else
  bif Nat.beq c 23 then .t23 else
  bif Nat.beq c 319 then .t319 else
  .no
@[reducible] def tgT : Tg -> Type
  | .no => Bool
  | .t9 => (List UInt8)
  | .t3 => Int
  | .t52 => (List Int)
  | .t65 => droverref24_Got
  | .t31 => (List droverref24_Got)
  | .t4 => Bool
  | .t33 => droverref24_Trace
  | .t66 => net_Got
  | .t35 => (List net_Got)
  | .t37 => net_Trace
  | .t58 => net_end
  | .t56 => (List net_end)
  | .t87 => Int
  | .t102 => Int
  | .t104 => Packet
  | .t143 => pipe_Out
  | .t77 => net_Fault
  | .t72 => net_item
  | .t89 => Action
  | .t248 => Test
  | .t91 => (List Test)
  | .t90 => (List Action)
  | .t93 => Entry
  | .t204 => Bucket
  | .t94 => (List Bucket)
  | .t96 => Group
  | .t98 => wire_Meter
  | .t100 => wire_Message
  | .t124 => topo_place
  | .t126 => topo_end
  | .t133 => device_why
  | .t5 => Int
  | .t163 => frame_sums
  | .t174 => meter_Bucket
  | .t183 => field_Seen
  | .t212 => wire_reader
  | .t23 => Int
  | .t319 => nums_Reader
@[reducible] def Th (c : Nat) : Type := tgT (tg c)
def lay' : Tg -> Option Nat
  | .no => none
  | .t9 => none
  | .t3 => none
  | .t52 => none
  | .t65 => some 3
  | .t31 => none
  | .t4 => none
  | .t33 => some 4
  | .t66 => some 3
  | .t35 => none
  | .t37 => some 4
  | .t58 => some 2
  | .t56 => none
  | .t87 => none
  | .t102 => none
  | .t104 => some 11
  | .t143 => some 12
  | .t77 => some 2
  | .t72 => some 5
  | .t89 => some 3
  | .t248 => some 3
  | .t91 => none
  | .t90 => none
  | .t93 => some 10
  | .t204 => some 3
  | .t94 => none
  | .t96 => some 3
  | .t98 => some 3
  | .t100 => some 26
  | .t124 => some 2
  | .t126 => some 3
  | .t133 => some 2
  | .t5 => none
  | .t163 => some 2
  | .t174 => some 3
  | .t183 => some 13
  | .t212 => some 1
  | .t23 => none
  | .t319 => some 2
@[reducible] def ty' : Tg -> List Ty
  | .no => [.b]
  | .t9 => [.s]
  | .t3 => [.i .i64]
  | .t52 => [.l 3]
  | .t65 => [.i .i64, .s, .l 3]
  | .t31 => [.l 65]
  | .t4 => [.b]
  | .t33 => [.l 65, .i .i64, .i .i64, .b]
  | .t66 => [.i .i64, .s, .l 3]
  | .t35 => [.l 66]
  | .t37 => [.l 66, .i .i64, .i .i64, .b]
  | .t58 => [.i .i64, .i .i64]
  | .t56 => [.l 58]
  | .t87 => [.i .u64]
  | .t102 => [.i .u32]
  | .t104 => [.i .u64, .i .u64, .i .i64, .i .i64, .i .u32, .i .u32, .i .i64, .i .i64, .i .i64, .i .i64, .s]
  | .t143 => [.i .i64, .i .u64, .i .u64, .i .i64, .i .i64, .i .u32, .i .u32, .i .i64, .i .i64, .i .i64, .i .i64, .s]
  | .t77 => [.i .i64, .i .i64]
  | .t72 => [.i .i64, .i .i64, .i .i64, .s, .l 3]
  | .t89 => [.i .i64, .i .i64, .i .u64]
  | .t248 => [.i .i64, .i .u64, .i .u64]
  | .t91 => [.l 248]
  | .t90 => [.l 89]
  | .t93 => [.i .i64, .i .i64, .l 248, .l 89, .l 89, .b, .i .u64, .i .u64, .i .i64, .i .i64]
  | .t204 => [.i .i64, .i .i64, .l 89]
  | .t94 => [.l 204]
  | .t96 => [.i .i64, .i .i64, .l 204]
  | .t98 => [.i .i64, .i .i64, .i .i64]
  | .t100 => [.i .i64, .i .i64, .i .i64, .b, .i .i64, .i .i64, .l 248, .l 89, .l 89, .b, .i .u64, .i .u64, .i .i64, .i .i64, .i .i64, .i .i64, .l 204, .i .i64, .i .i64, .i .i64, .i .i64, .i .i64, .i .i64, .b, .l 89, .s]
  | .t124 => [.i .i64, .i .i64]
  | .t126 => [.i .i64, .i .i64, .i .i64]
  | .t133 => [.i .i64, .i .i64]
  | .t5 => [.i .u8]
  | .t163 => [.i .i64, .i .i64]
  | .t174 => [.i .u64, .i .u64, .i .u64]
  | .t183 => [.i .i64, .i .u64, .i .u64, .i .u64, .i .i64, .i .i64, .i .u32, .i .u32, .i .i64, .i .i64, .i .i64, .i .i64, .s]
  | .t212 => [.s]
  | .t23 => [.i .i64]
  | .t319 => [.s, .i .i64]
def to' : (t : Tg) -> tgT t -> Tup Th (ty' t)
  | .no, x => (x, ())
  | .t9, x => (x, ())
  | .t3, x => (x, ())
  | .t52, x => (x, ())
  | .t65, x => (x.Host, x.Data, x.Word, ())
  | .t31, x => (x, ())
  | .t4, x => (x, ())
  | .t33, x => (x.Got, x.Lost, x.Steps, x.Left, ())
  | .t66, x => (x.Host, x.Data, x.Word, ())
  | .t35, x => (x, ())
  | .t37, x => (x.Got, x.Lost, x.Steps, x.Left, ())
  | .t58, x => (x.sw, x.port, ())
  | .t56, x => (x, ())
  | .t87, x => (x, ())
  | .t102, x => (x, ())
  | .t104, x => (x.To, x.From, x.Vlan, x.Type_, x.Src, x.Dst, x.Life, x.Proto, x.Sport, x.Dport, x.Data, ())
  | .t143, x => (x.Port, x.P.To, x.P.From, x.P.Vlan, x.P.Type_, x.P.Src, x.P.Dst, x.P.Life, x.P.Proto, x.P.Sport, x.P.Dport, x.P.Data, ())
  | .t77, x => (x.Step, x.Link, ())
  | .t72, x => (x.end_.sw, x.end_.port, x.link, x.data, x.word, ())
  | .t89, x => (x.Kind, x.Field, x.Value, ())
  | .t248, x => (x.Field, x.Value, x.Mask, ())
  | .t91, x => (x, ())
  | .t90, x => (x, ())
  | .t93, x => (x.Table, x.Priority, x.Tests, x.Apply, x.Write, x.Clear, x.Meta, x.MetaMask, x.Meter, x.Goto, ())
  | .t204, x => (x.Watch, x.Weight, x.Actions, ())
  | .t94, x => (x, ())
  | .t96, x => (x.ID, x.Kind, x.Buckets, ())
  | .t98, x => (x.ID, x.Rate, x.Burst, ())
  | .t100, x => (x.Kind, x.Xid, x.Command, x.Check, x.Entry.Table, x.Entry.Priority, x.Entry.Tests, x.Entry.Apply, x.Entry.Write, x.Entry.Clear, x.Entry.Meta, x.Entry.MetaMask, x.Entry.Meter, x.Entry.Goto, x.Group.ID, x.Group.Kind, x.Group.Buckets, x.Meter.ID, x.Meter.Rate, x.Meter.Burst, x.Type_, x.Code, x.Port, x.Live, x.Actions, x.Data, ())
  | .t124, x => (x.sw, x.port, ())
  | .t126, x => (x.place.sw, x.place.port, x.link, ())
  | .t133, x => (x.kind, x.code, ())
  | .t5, x => (x, ())
  | .t163, x => (x.head, x.part, ())
  | .t174, x => (x.rate, x.burst, x.left, ())
  | .t183, x => (x.In, x.Meta, x.P.To, x.P.From, x.P.Vlan, x.P.Type_, x.P.Src, x.P.Dst, x.P.Life, x.P.Proto, x.P.Sport, x.P.Dport, x.P.Data, ())
  | .t212, x => (x.rest, ())
  | .t23, x => (x, ())
  | .t319, x => (x.rest, x.err, ())
def fr' : (t : Tg) -> Tup Th (ty' t) -> tgT t
  | .no, y => y.1
  | .t9, y => y.1
  | .t3, y => y.1
  | .t52, y => y.1
  | .t65, y => ⟨y.1, y.2.1, y.2.2.1⟩
  | .t31, y => y.1
  | .t4, y => y.1
  | .t33, y => ⟨y.1, y.2.1, y.2.2.1, y.2.2.2.1⟩
  | .t66, y => ⟨y.1, y.2.1, y.2.2.1⟩
  | .t35, y => y.1
  | .t37, y => ⟨y.1, y.2.1, y.2.2.1, y.2.2.2.1⟩
  | .t58, y => ⟨y.1, y.2.1⟩
  | .t56, y => y.1
  | .t87, y => y.1
  | .t102, y => y.1
  | .t104, y => ⟨y.1, y.2.1, y.2.2.1, y.2.2.2.1, y.2.2.2.2.1, y.2.2.2.2.2.1, y.2.2.2.2.2.2.1, y.2.2.2.2.2.2.2.1, y.2.2.2.2.2.2.2.2.1, y.2.2.2.2.2.2.2.2.2.1, y.2.2.2.2.2.2.2.2.2.2.1⟩
  | .t143, y => ⟨y.1, ⟨y.2.1, y.2.2.1, y.2.2.2.1, y.2.2.2.2.1, y.2.2.2.2.2.1, y.2.2.2.2.2.2.1, y.2.2.2.2.2.2.2.1, y.2.2.2.2.2.2.2.2.1, y.2.2.2.2.2.2.2.2.2.1, y.2.2.2.2.2.2.2.2.2.2.1, y.2.2.2.2.2.2.2.2.2.2.2.1⟩⟩
  | .t77, y => ⟨y.1, y.2.1⟩
  | .t72, y => ⟨⟨y.1, y.2.1⟩, y.2.2.1, y.2.2.2.1, y.2.2.2.2.1⟩
  | .t89, y => ⟨y.1, y.2.1, y.2.2.1⟩
  | .t248, y => ⟨y.1, y.2.1, y.2.2.1⟩
  | .t91, y => y.1
  | .t90, y => y.1
  | .t93, y => ⟨y.1, y.2.1, y.2.2.1, y.2.2.2.1, y.2.2.2.2.1, y.2.2.2.2.2.1, y.2.2.2.2.2.2.1, y.2.2.2.2.2.2.2.1, y.2.2.2.2.2.2.2.2.1, y.2.2.2.2.2.2.2.2.2.1⟩
  | .t204, y => ⟨y.1, y.2.1, y.2.2.1⟩
  | .t94, y => y.1
  | .t96, y => ⟨y.1, y.2.1, y.2.2.1⟩
  | .t98, y => ⟨y.1, y.2.1, y.2.2.1⟩
  | .t100, y => ⟨y.1, y.2.1, y.2.2.1, y.2.2.2.1, ⟨y.2.2.2.2.1, y.2.2.2.2.2.1, y.2.2.2.2.2.2.1, y.2.2.2.2.2.2.2.1, y.2.2.2.2.2.2.2.2.1, y.2.2.2.2.2.2.2.2.2.1, y.2.2.2.2.2.2.2.2.2.2.1, y.2.2.2.2.2.2.2.2.2.2.2.1, y.2.2.2.2.2.2.2.2.2.2.2.2.1, y.2.2.2.2.2.2.2.2.2.2.2.2.2.1⟩, ⟨y.2.2.2.2.2.2.2.2.2.2.2.2.2.2.1, y.2.2.2.2.2.2.2.2.2.2.2.2.2.2.2.1, y.2.2.2.2.2.2.2.2.2.2.2.2.2.2.2.2.1⟩, ⟨y.2.2.2.2.2.2.2.2.2.2.2.2.2.2.2.2.2.1, y.2.2.2.2.2.2.2.2.2.2.2.2.2.2.2.2.2.2.1, y.2.2.2.2.2.2.2.2.2.2.2.2.2.2.2.2.2.2.2.1⟩, y.2.2.2.2.2.2.2.2.2.2.2.2.2.2.2.2.2.2.2.2.1, y.2.2.2.2.2.2.2.2.2.2.2.2.2.2.2.2.2.2.2.2.2.1, y.2.2.2.2.2.2.2.2.2.2.2.2.2.2.2.2.2.2.2.2.2.2.1, y.2.2.2.2.2.2.2.2.2.2.2.2.2.2.2.2.2.2.2.2.2.2.2.1, y.2.2.2.2.2.2.2.2.2.2.2.2.2.2.2.2.2.2.2.2.2.2.2.2.1, y.2.2.2.2.2.2.2.2.2.2.2.2.2.2.2.2.2.2.2.2.2.2.2.2.2.1⟩
  | .t124, y => ⟨y.1, y.2.1⟩
  | .t126, y => ⟨⟨y.1, y.2.1⟩, y.2.2.1⟩
  | .t133, y => ⟨y.1, y.2.1⟩
  | .t5, y => y.1
  | .t163, y => ⟨y.1, y.2.1⟩
  | .t174, y => ⟨y.1, y.2.1, y.2.2.1⟩
  | .t183, y => ⟨y.1, y.2.1, ⟨y.2.2.1, y.2.2.2.1, y.2.2.2.2.1, y.2.2.2.2.2.1, y.2.2.2.2.2.2.1, y.2.2.2.2.2.2.2.1, y.2.2.2.2.2.2.2.2.1, y.2.2.2.2.2.2.2.2.2.1, y.2.2.2.2.2.2.2.2.2.2.1, y.2.2.2.2.2.2.2.2.2.2.2.1, y.2.2.2.2.2.2.2.2.2.2.2.2.1⟩⟩
  | .t212, y => ⟨y.1⟩
  | .t23, y => y.1
  | .t319, y => ⟨y.1, y.2.1⟩
def avs_9 (x : (List UInt8)) : List AV := [.v (bytesV x)]
theorem sh_9 (x : (List UInt8)) : AV.shut.shutL (avs_9 x) = true := shL_cons rfl (shL_nil)
def avs_3 (x : Int) : List AV := [.v (.int .i64 x)]
theorem sh_3 (x : Int) : AV.shut.shutL (avs_3 x) = true := shL_cons rfl (shL_nil)
theorem sw_3 (x : Int) : (wrapA (lay' (tg 3)) (avs_3 x)).shut = true := shL_head (sh_3 x)
def avs_52 (x : (List Int)) : List AV := [.lst (lay' (tg 3) |> laySize) (x.map fun y => wrapA (lay' (tg 3)) (avs_3 y))]
theorem sh_52 (x : (List Int)) : AV.shut.shutL (avs_52 x) = true := shL_cons (shL_map fun y => sw_3 y) (shL_nil)
def avs_65 (x : droverref24_Got) : List AV := [.v (.int .i64 x.Host), .v (bytesV x.Data), .lst (lay' (tg 3) |> laySize) (x.Word.map fun y => wrapA (lay' (tg 3)) (avs_3 y))]
theorem sh_65 (x : droverref24_Got) : AV.shut.shutL (avs_65 x) = true := shL_cons rfl (shL_cons rfl (shL_cons (shL_map fun y => sw_3 y) (shL_nil)))
theorem sw_65 (x : droverref24_Got) : (wrapA (lay' (tg 65)) (avs_65 x)).shut = true := sh_65 x
def avs_31 (x : (List droverref24_Got)) : List AV := [.lst (lay' (tg 65) |> laySize) (x.map fun y => wrapA (lay' (tg 65)) (avs_65 y))]
theorem sh_31 (x : (List droverref24_Got)) : AV.shut.shutL (avs_31 x) = true := shL_cons (shL_map fun y => sw_65 y) (shL_nil)
def avs_4 (x : Bool) : List AV := [.v (.bool x)]
theorem sh_4 (x : Bool) : AV.shut.shutL (avs_4 x) = true := shL_cons rfl (shL_nil)
def avs_33 (x : droverref24_Trace) : List AV := [.lst (lay' (tg 65) |> laySize) (x.Got.map fun y => wrapA (lay' (tg 65)) (avs_65 y)), .v (.int .i64 x.Lost), .v (.int .i64 x.Steps), .v (.bool x.Left)]
theorem sh_33 (x : droverref24_Trace) : AV.shut.shutL (avs_33 x) = true := shL_cons (shL_map fun y => sw_65 y) (shL_cons rfl (shL_cons rfl (shL_cons rfl (shL_nil))))
def avs_66 (x : net_Got) : List AV := [.v (.int .i64 x.Host), .v (bytesV x.Data), .lst (lay' (tg 3) |> laySize) (x.Word.map fun y => wrapA (lay' (tg 3)) (avs_3 y))]
theorem sh_66 (x : net_Got) : AV.shut.shutL (avs_66 x) = true := shL_cons rfl (shL_cons rfl (shL_cons (shL_map fun y => sw_3 y) (shL_nil)))
theorem sw_66 (x : net_Got) : (wrapA (lay' (tg 66)) (avs_66 x)).shut = true := sh_66 x
def avs_35 (x : (List net_Got)) : List AV := [.lst (lay' (tg 66) |> laySize) (x.map fun y => wrapA (lay' (tg 66)) (avs_66 y))]
theorem sh_35 (x : (List net_Got)) : AV.shut.shutL (avs_35 x) = true := shL_cons (shL_map fun y => sw_66 y) (shL_nil)
def avs_37 (x : net_Trace) : List AV := [.lst (lay' (tg 66) |> laySize) (x.Got.map fun y => wrapA (lay' (tg 66)) (avs_66 y)), .v (.int .i64 x.Lost), .v (.int .i64 x.Steps), .v (.bool x.Left)]
theorem sh_37 (x : net_Trace) : AV.shut.shutL (avs_37 x) = true := shL_cons (shL_map fun y => sw_66 y) (shL_cons rfl (shL_cons rfl (shL_cons rfl (shL_nil))))
def avs_58 (x : net_end) : List AV := [.v (.int .i64 x.sw), .v (.int .i64 x.port)]
theorem sh_58 (x : net_end) : AV.shut.shutL (avs_58 x) = true := shL_cons rfl (shL_cons rfl (shL_nil))
theorem sw_58 (x : net_end) : (wrapA (lay' (tg 58)) (avs_58 x)).shut = true := sh_58 x
def avs_56 (x : (List net_end)) : List AV := [.lst (lay' (tg 58) |> laySize) (x.map fun y => wrapA (lay' (tg 58)) (avs_58 y))]
theorem sh_56 (x : (List net_end)) : AV.shut.shutL (avs_56 x) = true := shL_cons (shL_map fun y => sw_58 y) (shL_nil)
def avs_87 (x : Int) : List AV := [.v (.int .u64 x)]
theorem sh_87 (x : Int) : AV.shut.shutL (avs_87 x) = true := shL_cons rfl (shL_nil)
def avs_102 (x : Int) : List AV := [.v (.int .u32 x)]
theorem sh_102 (x : Int) : AV.shut.shutL (avs_102 x) = true := shL_cons rfl (shL_nil)
def avs_104 (x : Packet) : List AV := [.v (.int .u64 x.To), .v (.int .u64 x.From), .v (.int .i64 x.Vlan), .v (.int .i64 x.Type_), .v (.int .u32 x.Src), .v (.int .u32 x.Dst), .v (.int .i64 x.Life), .v (.int .i64 x.Proto), .v (.int .i64 x.Sport), .v (.int .i64 x.Dport), .v (bytesV x.Data)]
theorem sh_104 (x : Packet) : AV.shut.shutL (avs_104 x) = true := shL_cons rfl (shL_cons rfl (shL_cons rfl (shL_cons rfl (shL_cons rfl (shL_cons rfl (shL_cons rfl (shL_cons rfl (shL_cons rfl (shL_cons rfl (shL_cons rfl (shL_nil)))))))))))
def avs_143 (x : pipe_Out) : List AV := [.v (.int .i64 x.Port), .v (.int .u64 x.P.To), .v (.int .u64 x.P.From), .v (.int .i64 x.P.Vlan), .v (.int .i64 x.P.Type_), .v (.int .u32 x.P.Src), .v (.int .u32 x.P.Dst), .v (.int .i64 x.P.Life), .v (.int .i64 x.P.Proto), .v (.int .i64 x.P.Sport), .v (.int .i64 x.P.Dport), .v (bytesV x.P.Data)]
theorem sh_143 (x : pipe_Out) : AV.shut.shutL (avs_143 x) = true := shL_cons rfl (shL_cons rfl (shL_cons rfl (shL_cons rfl (shL_cons rfl (shL_cons rfl (shL_cons rfl (shL_cons rfl (shL_cons rfl (shL_cons rfl (shL_cons rfl (shL_cons rfl (shL_nil))))))))))))
def avs_77 (x : net_Fault) : List AV := [.v (.int .i64 x.Step), .v (.int .i64 x.Link)]
theorem sh_77 (x : net_Fault) : AV.shut.shutL (avs_77 x) = true := shL_cons rfl (shL_cons rfl (shL_nil))
def avs_72 (x : net_item) : List AV := [.v (.int .i64 x.end_.sw), .v (.int .i64 x.end_.port), .v (.int .i64 x.link), .v (bytesV x.data), .lst (lay' (tg 3) |> laySize) (x.word.map fun y => wrapA (lay' (tg 3)) (avs_3 y))]
theorem sh_72 (x : net_item) : AV.shut.shutL (avs_72 x) = true := shL_cons rfl (shL_cons rfl (shL_cons rfl (shL_cons rfl (shL_cons (shL_map fun y => sw_3 y) (shL_nil)))))
def avs_89 (x : Action) : List AV := [.v (.int .i64 x.Kind), .v (.int .i64 x.Field), .v (.int .u64 x.Value)]
theorem sh_89 (x : Action) : AV.shut.shutL (avs_89 x) = true := shL_cons rfl (shL_cons rfl (shL_cons rfl (shL_nil)))
theorem sw_89 (x : Action) : (wrapA (lay' (tg 89)) (avs_89 x)).shut = true := sh_89 x
def avs_248 (x : Test) : List AV := [.v (.int .i64 x.Field), .v (.int .u64 x.Value), .v (.int .u64 x.Mask)]
theorem sh_248 (x : Test) : AV.shut.shutL (avs_248 x) = true := shL_cons rfl (shL_cons rfl (shL_cons rfl (shL_nil)))
theorem sw_248 (x : Test) : (wrapA (lay' (tg 248)) (avs_248 x)).shut = true := sh_248 x
def avs_91 (x : (List Test)) : List AV := [.lst (lay' (tg 248) |> laySize) (x.map fun y => wrapA (lay' (tg 248)) (avs_248 y))]
theorem sh_91 (x : (List Test)) : AV.shut.shutL (avs_91 x) = true := shL_cons (shL_map fun y => sw_248 y) (shL_nil)
def avs_90 (x : (List Action)) : List AV := [.lst (lay' (tg 89) |> laySize) (x.map fun y => wrapA (lay' (tg 89)) (avs_89 y))]
theorem sh_90 (x : (List Action)) : AV.shut.shutL (avs_90 x) = true := shL_cons (shL_map fun y => sw_89 y) (shL_nil)
def avs_93 (x : Entry) : List AV := [.v (.int .i64 x.Table), .v (.int .i64 x.Priority), .lst (lay' (tg 248) |> laySize) (x.Tests.map fun y => wrapA (lay' (tg 248)) (avs_248 y)), .lst (lay' (tg 89) |> laySize) (x.Apply.map fun y => wrapA (lay' (tg 89)) (avs_89 y)), .lst (lay' (tg 89) |> laySize) (x.Write.map fun y => wrapA (lay' (tg 89)) (avs_89 y)), .v (.bool x.Clear), .v (.int .u64 x.Meta), .v (.int .u64 x.MetaMask), .v (.int .i64 x.Meter), .v (.int .i64 x.Goto)]
theorem sh_93 (x : Entry) : AV.shut.shutL (avs_93 x) = true := shL_cons rfl (shL_cons rfl (shL_cons (shL_map fun y => sw_248 y) (shL_cons (shL_map fun y => sw_89 y) (shL_cons (shL_map fun y => sw_89 y) (shL_cons rfl (shL_cons rfl (shL_cons rfl (shL_cons rfl (shL_cons rfl (shL_nil))))))))))
def avs_204 (x : Bucket) : List AV := [.v (.int .i64 x.Watch), .v (.int .i64 x.Weight), .lst (lay' (tg 89) |> laySize) (x.Actions.map fun y => wrapA (lay' (tg 89)) (avs_89 y))]
theorem sh_204 (x : Bucket) : AV.shut.shutL (avs_204 x) = true := shL_cons rfl (shL_cons rfl (shL_cons (shL_map fun y => sw_89 y) (shL_nil)))
theorem sw_204 (x : Bucket) : (wrapA (lay' (tg 204)) (avs_204 x)).shut = true := sh_204 x
def avs_94 (x : (List Bucket)) : List AV := [.lst (lay' (tg 204) |> laySize) (x.map fun y => wrapA (lay' (tg 204)) (avs_204 y))]
theorem sh_94 (x : (List Bucket)) : AV.shut.shutL (avs_94 x) = true := shL_cons (shL_map fun y => sw_204 y) (shL_nil)
def avs_96 (x : Group) : List AV := [.v (.int .i64 x.ID), .v (.int .i64 x.Kind), .lst (lay' (tg 204) |> laySize) (x.Buckets.map fun y => wrapA (lay' (tg 204)) (avs_204 y))]
theorem sh_96 (x : Group) : AV.shut.shutL (avs_96 x) = true := shL_cons rfl (shL_cons rfl (shL_cons (shL_map fun y => sw_204 y) (shL_nil)))
def avs_98 (x : wire_Meter) : List AV := [.v (.int .i64 x.ID), .v (.int .i64 x.Rate), .v (.int .i64 x.Burst)]
theorem sh_98 (x : wire_Meter) : AV.shut.shutL (avs_98 x) = true := shL_cons rfl (shL_cons rfl (shL_cons rfl (shL_nil)))
def avs_100 (x : wire_Message) : List AV := [.v (.int .i64 x.Kind), .v (.int .i64 x.Xid), .v (.int .i64 x.Command), .v (.bool x.Check), .v (.int .i64 x.Entry.Table), .v (.int .i64 x.Entry.Priority), .lst (lay' (tg 248) |> laySize) (x.Entry.Tests.map fun y => wrapA (lay' (tg 248)) (avs_248 y)), .lst (lay' (tg 89) |> laySize) (x.Entry.Apply.map fun y => wrapA (lay' (tg 89)) (avs_89 y)), .lst (lay' (tg 89) |> laySize) (x.Entry.Write.map fun y => wrapA (lay' (tg 89)) (avs_89 y)), .v (.bool x.Entry.Clear), .v (.int .u64 x.Entry.Meta), .v (.int .u64 x.Entry.MetaMask), .v (.int .i64 x.Entry.Meter), .v (.int .i64 x.Entry.Goto), .v (.int .i64 x.Group.ID), .v (.int .i64 x.Group.Kind), .lst (lay' (tg 204) |> laySize) (x.Group.Buckets.map fun y => wrapA (lay' (tg 204)) (avs_204 y)), .v (.int .i64 x.Meter.ID), .v (.int .i64 x.Meter.Rate), .v (.int .i64 x.Meter.Burst), .v (.int .i64 x.Type_), .v (.int .i64 x.Code), .v (.int .i64 x.Port), .v (.bool x.Live), .lst (lay' (tg 89) |> laySize) (x.Actions.map fun y => wrapA (lay' (tg 89)) (avs_89 y)), .v (bytesV x.Data)]
theorem sh_100 (x : wire_Message) : AV.shut.shutL (avs_100 x) = true := shL_cons rfl (shL_cons rfl (shL_cons rfl (shL_cons rfl (shL_cons rfl (shL_cons rfl (shL_cons (shL_map fun y => sw_248 y) (shL_cons (shL_map fun y => sw_89 y) (shL_cons (shL_map fun y => sw_89 y) (shL_cons rfl (shL_cons rfl (shL_cons rfl (shL_cons rfl (shL_cons rfl (shL_cons rfl (shL_cons rfl (shL_cons (shL_map fun y => sw_204 y) (shL_cons rfl (shL_cons rfl (shL_cons rfl (shL_cons rfl (shL_cons rfl (shL_cons rfl (shL_cons rfl (shL_cons (shL_map fun y => sw_89 y) (shL_cons rfl (shL_nil))))))))))))))))))))))))))
def avs_124 (x : topo_place) : List AV := [.v (.int .i64 x.sw), .v (.int .i64 x.port)]
theorem sh_124 (x : topo_place) : AV.shut.shutL (avs_124 x) = true := shL_cons rfl (shL_cons rfl (shL_nil))
def avs_126 (x : topo_end) : List AV := [.v (.int .i64 x.place.sw), .v (.int .i64 x.place.port), .v (.int .i64 x.link)]
theorem sh_126 (x : topo_end) : AV.shut.shutL (avs_126 x) = true := shL_cons rfl (shL_cons rfl (shL_cons rfl (shL_nil)))
def avs_133 (x : device_why) : List AV := [.v (.int .i64 x.kind), .v (.int .i64 x.code)]
theorem sh_133 (x : device_why) : AV.shut.shutL (avs_133 x) = true := shL_cons rfl (shL_cons rfl (shL_nil))
def avs_5 (x : Int) : List AV := [.v (.int .u8 x)]
theorem sh_5 (x : Int) : AV.shut.shutL (avs_5 x) = true := shL_cons rfl (shL_nil)
def avs_163 (x : frame_sums) : List AV := [.v (.int .i64 x.head), .v (.int .i64 x.part)]
theorem sh_163 (x : frame_sums) : AV.shut.shutL (avs_163 x) = true := shL_cons rfl (shL_cons rfl (shL_nil))
def avs_174 (x : meter_Bucket) : List AV := [.v (.int .u64 x.rate), .v (.int .u64 x.burst), .v (.int .u64 x.left)]
theorem sh_174 (x : meter_Bucket) : AV.shut.shutL (avs_174 x) = true := shL_cons rfl (shL_cons rfl (shL_cons rfl (shL_nil)))
def avs_183 (x : field_Seen) : List AV := [.v (.int .i64 x.In), .v (.int .u64 x.Meta), .v (.int .u64 x.P.To), .v (.int .u64 x.P.From), .v (.int .i64 x.P.Vlan), .v (.int .i64 x.P.Type_), .v (.int .u32 x.P.Src), .v (.int .u32 x.P.Dst), .v (.int .i64 x.P.Life), .v (.int .i64 x.P.Proto), .v (.int .i64 x.P.Sport), .v (.int .i64 x.P.Dport), .v (bytesV x.P.Data)]
theorem sh_183 (x : field_Seen) : AV.shut.shutL (avs_183 x) = true := shL_cons rfl (shL_cons rfl (shL_cons rfl (shL_cons rfl (shL_cons rfl (shL_cons rfl (shL_cons rfl (shL_cons rfl (shL_cons rfl (shL_cons rfl (shL_cons rfl (shL_cons rfl (shL_cons rfl (shL_nil)))))))))))))
def avs_212 (x : wire_reader) : List AV := [.v (bytesV x.rest)]
theorem sh_212 (x : wire_reader) : AV.shut.shutL (avs_212 x) = true := shL_cons rfl (shL_nil)
def avs_23 (x : Int) : List AV := [.v (.int .i64 x)]
theorem sh_23 (x : Int) : AV.shut.shutL (avs_23 x) = true := shL_cons rfl (shL_nil)
def avs_319 (x : nums_Reader) : List AV := [.v (bytesV x.rest), .v (.int .i64 x.err)]
theorem sh_319 (x : nums_Reader) : AV.shut.shutL (avs_319 x) = true := shL_cons rfl (shL_cons rfl (shL_nil))
def avs' : (t : Tg) -> tgT t -> List AV
  | .no, x => [.v (.bool x)]
  | .t9, x => avs_9 x
  | .t3, x => avs_3 x
  | .t52, x => avs_52 x
  | .t65, x => avs_65 x
  | .t31, x => avs_31 x
  | .t4, x => avs_4 x
  | .t33, x => avs_33 x
  | .t66, x => avs_66 x
  | .t35, x => avs_35 x
  | .t37, x => avs_37 x
  | .t58, x => avs_58 x
  | .t56, x => avs_56 x
  | .t87, x => avs_87 x
  | .t102, x => avs_102 x
  | .t104, x => avs_104 x
  | .t143, x => avs_143 x
  | .t77, x => avs_77 x
  | .t72, x => avs_72 x
  | .t89, x => avs_89 x
  | .t248, x => avs_248 x
  | .t91, x => avs_91 x
  | .t90, x => avs_90 x
  | .t93, x => avs_93 x
  | .t204, x => avs_204 x
  | .t94, x => avs_94 x
  | .t96, x => avs_96 x
  | .t98, x => avs_98 x
  | .t100, x => avs_100 x
  | .t124, x => avs_124 x
  | .t126, x => avs_126 x
  | .t133, x => avs_133 x
  | .t5, x => avs_5 x
  | .t163, x => avs_163 x
  | .t174, x => avs_174 x
  | .t183, x => avs_183 x
  | .t212, x => avs_212 x
  | .t23, x => avs_23 x
  | .t319, x => avs_319 x
theorem shut' : ∀ (t : Tg) (x : tgT t), AV.shut.shutL (avs' t x) = true
  | .no, x => rfl
  | .t9, x => sh_9 x
  | .t3, x => sh_3 x
  | .t52, x => sh_52 x
  | .t65, x => sh_65 x
  | .t31, x => sh_31 x
  | .t4, x => sh_4 x
  | .t33, x => sh_33 x
  | .t66, x => sh_66 x
  | .t35, x => sh_35 x
  | .t37, x => sh_37 x
  | .t58, x => sh_58 x
  | .t56, x => sh_56 x
  | .t87, x => sh_87 x
  | .t102, x => sh_102 x
  | .t104, x => sh_104 x
  | .t143, x => sh_143 x
  | .t77, x => sh_77 x
  | .t72, x => sh_72 x
  | .t89, x => sh_89 x
  | .t248, x => sh_248 x
  | .t91, x => sh_91 x
  | .t90, x => sh_90 x
  | .t93, x => sh_93 x
  | .t204, x => sh_204 x
  | .t94, x => sh_94 x
  | .t96, x => sh_96 x
  | .t98, x => sh_98 x
  | .t100, x => sh_100 x
  | .t124, x => sh_124 x
  | .t126, x => sh_126 x
  | .t133, x => sh_133 x
  | .t5, x => sh_5 x
  | .t163, x => sh_163 x
  | .t174, x => sh_174 x
  | .t183, x => sh_183 x
  | .t212, x => sh_212 x
  | .t23, x => sh_23 x
  | .t319, x => sh_319 x
def G : CodG Th where
  lay c := lay' (tg c)
  ty c := ty' (tg c)
  to c x := to' (tg c) x
  fr c y := fr' (tg c) y
  avs c x := avs' (tg c) x
abbrev C : Cod Th := G.cod
theorem av' : ∀ (t : Tg) (x : tgT t), (cellsG (ty' t) (to' t x)).map (SV.av G.cod) = avs' t x := by intro t x; cases t <;> rfl
theorem gok : CodGOk G := ⟨fun c => (by cases h : tg c <;> simp only [G, h] <;> rfl), fun c y => (to_fr' (tg c) y), fun c x => av' (tg c) x, fun c x a h => shL_mem (shut' (tg c) x) a h, fun c x => fr_to' (tg c) x⟩
where
  fr_to' : ∀ (t : Tg) (x : tgT t), fr' t (to' t x) = x := by intro t x; cases t <;> rfl
  to_fr' : ∀ (t : Tg) (y : Tup Th (ty' t)), to' t (fr' t y) = y := by intro t y; cases t <;> rfl
end Go.Proofs.Nnl
