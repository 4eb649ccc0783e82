/- A part of a law's proof: TbnTy. -/
import Derived.Test.YtohoheanjmlgmaaSvCod
set_option linter.unusedSimpArgs false
set_option linter.constructorNameAsVariable false
namespace Go.Proofs.Tbn
open Go Go.Ab
set_option linter.unusedVariables false
structure Test where
  Field : Int
  Value : Int
  Mask : Int
  deriving DecidableEq, Inhabited
structure Action where
  Kind : Int
  Field : Int
  Value : Int
  deriving DecidableEq, Inhabited
structure Entry where
  Table : Int
  Priority : Int
  Tests : (List Test)
  Apply : (List Action)
  Write : (List Action)
  Clear : Bool
  Meta : Int
  MetaMask : Int
  Meter : Int
  Goto : Int
  deriving DecidableEq, Inhabited
structure Packet where
  To : Int
  From : Int
  Vlan : Int
  Type_ : Int
  Src : Int
  Dst : Int
  Life : Int
  Proto : Int
  Sport : Int
  Dport : Int
  Data : (List UInt8)
  deriving DecidableEq, Inhabited
structure field_Seen where
  In : Int
  Meta : Int
  P : Packet
  deriving DecidableEq, Inhabited
inductive Tg where
  | no
  | t3
  | t24
  | t59
  | t66
  | t22
  | t23
  | t4
  | t26
  | t27
  | t9
  | t29
  | t31
  | t5
def tg (c : Nat) : Tg :=
  bif Nat.beq c 3 then .t3 else
  bif Nat.beq c 24 then .t24 else
  bif Nat.beq c 59 then .t59 else
  bif Nat.beq c 66 then .t66 else
  bif Nat.beq c 22 then .t22 else
  bif Nat.beq c 23 then .t23 else
  bif Nat.beq c 4 then .t4 else
  bif Nat.beq c 26 then .t26 else
  bif Nat.beq c 27 then .t27 else
  bif Nat.beq c 9 then .t9 else
  bif Nat.beq c 29 then .t29 else
  bif Nat.beq c 31 then .t31 else
  bif Nat.beq c 5 then .t5 else
  .no
@[reducible] def tgT : Tg → Type
  | .no => Bool
  | .t3 => Int
  | .t24 => Int
  | .t59 => Test
  | .t66 => Action
  | .t22 => (List Test)
  | .t23 => (List Action)
  | .t4 => Bool
  | .t26 => Entry
  | .t27 => Int
  | .t9 => (List UInt8)
  | .t29 => Packet
  | .t31 => field_Seen
  | .t5 => Int
@[reducible] def Th (c : Nat) : Type := tgT (tg c)
def lay' : Tg → Option Nat
  | .no => none
  | .t3 => none
  | .t24 => none
  | .t59 => some 3
  | .t66 => some 3
  | .t22 => none
  | .t23 => none
  | .t4 => none
  | .t26 => some 10
  | .t27 => none
  | .t9 => none
  | .t29 => some 11
  | .t31 => some 13
  | .t5 => none
@[reducible] def ty' : Tg → List Ty
  | .no => [.b]
  | .t3 => [.i .i64]
  | .t24 => [.i .u64]
  | .t59 => [.i .i64, .i .u64, .i .u64]
  | .t66 => [.i .i64, .i .i64, .i .u64]
  | .t22 => [.l 59]
  | .t23 => [.l 66]
  | .t4 => [.b]
  | .t26 => [.i .i64, .i .i64, .l 59, .l 66, .l 66, .b, .i .u64, .i .u64, .i .i64, .i .i64]
  | .t27 => [.i .u32]
  | .t9 => [.s]
  | .t29 => [.i .u64, .i .u64, .i .i64, .i .i64, .i .u32, .i .u32, .i .i64, .i .i64, .i .i64, .i .i64, .s]
  | .t31 => [.i .i64, .i .u64, .i .u64, .i .u64, .i .i64, .i .i64, .i .u32, .i .u32, .i .i64, .i .i64, .i .i64, .i .i64, .s]
  | .t5 => [.i .u8]
def to' : (t : Tg) → tgT t → Tup Th (ty' t)
  | .no, x => (x, ())
  | .t3, x => (x, ())
  | .t24, x => (x, ())
  | .t59, x => (x.Field, x.Value, x.Mask, ())
  | .t66, x => (x.Kind, x.Field, x.Value, ())
  | .t22, x => (x, ())
  | .t23, x => (x, ())
  | .t4, x => (x, ())
  | .t26, x => (x.Table, x.Priority, x.Tests, x.Apply, x.Write, x.Clear, x.Meta, x.MetaMask, x.Meter, x.Goto, ())
  | .t27, x => (x, ())
  | .t9, x => (x, ())
  | .t29, x => (x.To, x.From, x.Vlan, x.Type_, x.Src, x.Dst, x.Life, x.Proto, x.Sport, x.Dport, x.Data, ())
  | .t31, x => (x.In, x.Meta, x.P.To, x.P.From, x.P.Vlan, x.P.Type_, x.P.Src, x.P.Dst, x.P.Life, x.P.Proto, x.P.Sport, x.P.Dport, x.P.Data, ())
  | .t5, x => (x, ())
def fr' : (t : Tg) → Tup Th (ty' t) → tgT t
  | .no, y => y.1
  | .t3, y => y.1
  | .t24, y => y.1
  | .t59, y => ⟨y.1, y.2.1, y.2.2.1⟩
  | .t66, y => ⟨y.1, y.2.1, y.2.2.1⟩
  | .t22, y => y.1
  | .t23, y => y.1
  | .t4, y => y.1
  | .t26, y => ⟨y.1, y.2.1, y.2.2.1, y.2.2.2.1, y.2.2.2.2.1, y.2.2.2.2.2.1, y.2.2.2.2.2.2.1, y.2.2.2.2.2.2.2.1, y.2.2.2.2.2.2.2.2.1, y.2.2.2.2.2.2.2.2.2.1⟩
  | .t27, y => y.1
  | .t9, y => y.1
  | .t29, y => ⟨y.1, y.2.1, y.2.2.1, y.2.2.2.1, y.2.2.2.2.1, y.2.2.2.2.2.1, y.2.2.2.2.2.2.1, y.2.2.2.2.2.2.2.1, y.2.2.2.2.2.2.2.2.1, y.2.2.2.2.2.2.2.2.2.1, y.2.2.2.2.2.2.2.2.2.2.1⟩
  | .t31, y => ⟨y.1, y.2.1, ⟨y.2.2.1, y.2.2.2.1, y.2.2.2.2.1, y.2.2.2.2.2.1, y.2.2.2.2.2.2.1, y.2.2.2.2.2.2.2.1, y.2.2.2.2.2.2.2.2.1, y.2.2.2.2.2.2.2.2.2.1, y.2.2.2.2.2.2.2.2.2.2.1, y.2.2.2.2.2.2.2.2.2.2.2.1, y.2.2.2.2.2.2.2.2.2.2.2.2.1⟩⟩
  | .t5, y => y.1
def avs_3 (x : Int) : List AV := [.v (.int .i64 x)]
theorem sh_3 (x : Int) : AV.shut.shutL (avs_3 x) = true := shL_cons rfl (shL_nil)
theorem sw_3 (x : Int) : (wrapA (lay' (tg 3)) (avs_3 x)).shut = true := shL_head (sh_3 x)
def avs_24 (x : Int) : List AV := [.v (.int .u64 x)]
theorem sh_24 (x : Int) : AV.shut.shutL (avs_24 x) = true := shL_cons rfl (shL_nil)
theorem sw_24 (x : Int) : (wrapA (lay' (tg 24)) (avs_24 x)).shut = true := shL_head (sh_24 x)
def avs_59 (x : Test) : List AV := [.v (.int .i64 x.Field), .v (.int .u64 x.Value), .v (.int .u64 x.Mask)]
theorem sh_59 (x : Test) : AV.shut.shutL (avs_59 x) = true := shL_cons rfl (shL_cons rfl (shL_cons rfl (shL_nil)))
theorem sw_59 (x : Test) : (wrapA (lay' (tg 59)) (avs_59 x)).shut = true := sh_59 x
def avs_66 (x : Action) : List AV := [.v (.int .i64 x.Kind), .v (.int .i64 x.Field), .v (.int .u64 x.Value)]
theorem sh_66 (x : Action) : AV.shut.shutL (avs_66 x) = true := shL_cons rfl (shL_cons rfl (shL_cons rfl (shL_nil)))
theorem sw_66 (x : Action) : (wrapA (lay' (tg 66)) (avs_66 x)).shut = true := sh_66 x
def avs_22 (x : (List Test)) : List AV := [.lst (lay' (tg 59) |> laySize) (x.map fun y => wrapA (lay' (tg 59)) (avs_59 y))]
theorem sh_22 (x : (List Test)) : AV.shut.shutL (avs_22 x) = true := shL_cons (shL_map fun y => sw_59 y) (shL_nil)
theorem sw_22 (x : (List Test)) : (wrapA (lay' (tg 22)) (avs_22 x)).shut = true := shL_head (sh_22 x)
def avs_23 (x : (List Action)) : List AV := [.lst (lay' (tg 66) |> laySize) (x.map fun y => wrapA (lay' (tg 66)) (avs_66 y))]
theorem sh_23 (x : (List Action)) : AV.shut.shutL (avs_23 x) = true := shL_cons (shL_map fun y => sw_66 y) (shL_nil)
theorem sw_23 (x : (List Action)) : (wrapA (lay' (tg 23)) (avs_23 x)).shut = true := shL_head (sh_23 x)
def avs_4 (x : Bool) : List AV := [.v (.bool x)]
theorem sh_4 (x : Bool) : AV.shut.shutL (avs_4 x) = true := shL_cons rfl (shL_nil)
theorem sw_4 (x : Bool) : (wrapA (lay' (tg 4)) (avs_4 x)).shut = true := shL_head (sh_4 x)
def avs_26 (x : Entry) : List AV := [.v (.int .i64 x.Table), .v (.int .i64 x.Priority), .lst (lay' (tg 59) |> laySize) (x.Tests.map fun y => wrapA (lay' (tg 59)) (avs_59 y)), .lst (lay' (tg 66) |> laySize) (x.Apply.map fun y => wrapA (lay' (tg 66)) (avs_66 y)), .lst (lay' (tg 66) |> laySize) (x.Write.map fun y => wrapA (lay' (tg 66)) (avs_66 y)), .v (.bool x.Clear), .v (.int .u64 x.Meta), .v (.int .u64 x.MetaMask), .v (.int .i64 x.Meter), .v (.int .i64 x.Goto)]
theorem sh_26 (x : Entry) : AV.shut.shutL (avs_26 x) = true := shL_cons rfl (shL_cons rfl (shL_cons (shL_map fun y => sw_59 y) (shL_cons (shL_map fun y => sw_66 y) (shL_cons (shL_map fun y => sw_66 y) (shL_cons rfl (shL_cons rfl (shL_cons rfl (shL_cons rfl (shL_cons rfl (shL_nil))))))))))
theorem sw_26 (x : Entry) : (wrapA (lay' (tg 26)) (avs_26 x)).shut = true := sh_26 x
def avs_27 (x : Int) : List AV := [.v (.int .u32 x)]
theorem sh_27 (x : Int) : AV.shut.shutL (avs_27 x) = true := shL_cons rfl (shL_nil)
theorem sw_27 (x : Int) : (wrapA (lay' (tg 27)) (avs_27 x)).shut = true := shL_head (sh_27 x)
def avs_9 (x : (List UInt8)) : List AV := [.v (bytesV x)]
theorem sh_9 (x : (List UInt8)) : AV.shut.shutL (avs_9 x) = true := shL_cons rfl (shL_nil)
theorem sw_9 (x : (List UInt8)) : (wrapA (lay' (tg 9)) (avs_9 x)).shut = true := shL_head (sh_9 x)
def avs_29 (x : Packet) : List AV := [.v (.int .u64 x.To), .v (.int .u64 x.From), .v (.int .i64 x.Vlan), .v (.int .i64 x.Type_), .v (.int .u32 x.Src), .v (.int .u32 x.Dst), .v (.int .i64 x.Life), .v (.int .i64 x.Proto), .v (.int .i64 x.Sport), .v (.int .i64 x.Dport), .v (bytesV x.Data)]
theorem sh_29 (x : Packet) : AV.shut.shutL (avs_29 x) = true := shL_cons rfl (shL_cons rfl (shL_cons rfl (shL_cons rfl (shL_cons rfl (shL_cons rfl (shL_cons rfl (shL_cons rfl (shL_cons rfl (shL_cons rfl (shL_cons rfl (shL_nil)))))))))))
theorem sw_29 (x : Packet) : (wrapA (lay' (tg 29)) (avs_29 x)).shut = true := sh_29 x
def avs_31 (x : field_Seen) : List AV := [.v (.int .i64 x.In), .v (.int .u64 x.Meta), .v (.int .u64 x.P.To), .v (.int .u64 x.P.From), .v (.int .i64 x.P.Vlan), .v (.int .i64 x.P.Type_), .v (.int .u32 x.P.Src), .v (.int .u32 x.P.Dst), .v (.int .i64 x.P.Life), .v (.int .i64 x.P.Proto), .v (.int .i64 x.P.Sport), .v (.int .i64 x.P.Dport), .v (bytesV x.P.Data)]
theorem sh_31 (x : field_Seen) : AV.shut.shutL (avs_31 x) = true := shL_cons rfl (shL_cons rfl (shL_cons rfl (shL_cons rfl (shL_cons rfl (shL_cons rfl (shL_cons rfl (shL_cons rfl (shL_cons rfl (shL_cons rfl (shL_cons rfl (shL_cons rfl (shL_cons rfl (shL_nil)))))))))))))
theorem sw_31 (x : field_Seen) : (wrapA (lay' (tg 31)) (avs_31 x)).shut = true := sh_31 x
def avs_5 (x : Int) : List AV := [.v (.int .u8 x)]
theorem sh_5 (x : Int) : AV.shut.shutL (avs_5 x) = true := shL_cons rfl (shL_nil)
theorem sw_5 (x : Int) : (wrapA (lay' (tg 5)) (avs_5 x)).shut = true := shL_head (sh_5 x)
def avs' : (t : Tg) → tgT t → List AV
  | .no, x => [.v (.bool x)]
  | .t3, x => avs_3 x
  | .t24, x => avs_24 x
  | .t59, x => avs_59 x
  | .t66, x => avs_66 x
  | .t22, x => avs_22 x
  | .t23, x => avs_23 x
  | .t4, x => avs_4 x
  | .t26, x => avs_26 x
  | .t27, x => avs_27 x
  | .t9, x => avs_9 x
  | .t29, x => avs_29 x
  | .t31, x => avs_31 x
  | .t5, x => avs_5 x
theorem shut' : ∀ (t : Tg) (x : tgT t), AV.shut.shutL (avs' t x) = true
  | .no, x => rfl
  | .t3, x => sh_3 x
  | .t24, x => sh_24 x
  | .t59, x => sh_59 x
  | .t66, x => sh_66 x
  | .t22, x => sh_22 x
  | .t23, x => sh_23 x
  | .t4, x => sh_4 x
  | .t26, x => sh_26 x
  | .t27, x => sh_27 x
  | .t9, x => sh_9 x
  | .t29, x => sh_29 x
  | .t31, x => sh_31 x
  | .t5, x => sh_5 x
def G : CodG Th where
  lay c := lay' (tg c)
  ty c := ty' (tg c)
  to c x := to' (tg c) x
  fr c y := fr' (tg c) y
  avs c x := avs' (tg c) x
abbrev C : Cod Th := G.cod
theorem av' : ∀ (t : Tg) (x : tgT t), (cellsG (ty' t) (to' t x)).map (SV.av G.cod) = avs' t x := by intro t x; cases t <;> rfl
theorem gok : CodGOk G := ⟨fun c => (by cases h : tg c <;> simp only [G, h] <;> rfl), fun c y => (to_fr' (tg c) y), fun c x => av' (tg c) x, fun c x a h => shL_mem (shut' (tg c) x) a h, fun c x => fr_to' (tg c) x⟩
where
  fr_to' : ∀ (t : Tg) (x : tgT t), fr' t (to' t x) = x := by intro t x; cases t <;> rfl
  to_fr' : ∀ (t : Tg) (y : Tup Th (ty' t)), to' t (fr' t y) = y := by intro t y; cases t <;> rfl
end Go.Proofs.Tbn
