/- A part of a law's proof: ActTy. -/
import Derived.Test.YtngoeofpjpdpoaaSvCod
set_option linter.unusedSimpArgs false
set_option linter.constructorNameAsVariable false
namespace Go.Proofs.Act
open Go Go.Ab
set_option linter.unusedVariables false
structure Action where
  Kind : Int
  Field : Int
  Value : Int
  deriving DecidableEq, Inhabited
structure Packet where
  To : Int
  From : Int
  Vlan : Int
  Type_ : Int
  Src : Int
  Dst : Int
  Life : Int
  Proto : Int
  Sport : Int
  Dport : Int
  Data : (List UInt8)
  deriving DecidableEq, Inhabited
structure field_Seen where
  In : Int
  Meta : Int
  P : Packet
  deriving DecidableEq, Inhabited
structure droverref04_Seen where
  In : Int
  Meta : Int
  P : Packet
  deriving DecidableEq, Inhabited
structure frame_sums where
  head : Int
  part : Int
  deriving DecidableEq, Inhabited
structure nums_Reader where
  rest : (List UInt8)
  err : Int
  deriving DecidableEq, Inhabited
inductive Tg where
  | no
  | t3
  | t29
  | t31
  | t37
  | t9
  | t39
  | t41
  | t42
  | t5
  | t88
  | t22
  | t24
  | t121
def tg (c : Nat) : Tg :=
  bif Nat.beq c 3 then .t3 else
  bif Nat.beq c 29 then .t29 else
  bif Nat.beq c 31 then .t31 else
  bif Nat.beq c 37 then .t37 else
  bif Nat.beq c 9 then .t9 else
  bif Nat.beq c 39 then .t39 else
  bif Nat.beq c 41 then .t41 else
  bif Nat.beq c 42 then .t42 else
  bif Nat.beq c 5 then .t5 else
  bif Nat.beq c 88 then .t88 else
  bif Nat.beq c 22 then .t22 else
  bif Nat.beq c 24 then .t24 else
  bif Nat.beq c 121 then .t121 else
  .no
@[reducible] def tgT : Tg → Type
  | .no => Bool
  | .t3 => Int
  | .t29 => Int
  | .t31 => Action
  | .t37 => Int
  | .t9 => (List UInt8)
  | .t39 => Packet
  | .t41 => field_Seen
  | .t42 => droverref04_Seen
  | .t5 => Int
  | .t88 => frame_sums
  | .t22 => (List Action)
  | .t24 => Int
  | .t121 => nums_Reader
@[reducible] def Th (c : Nat) : Type := tgT (tg c)
def lay' : Tg → Option Nat
  | .no => none
  | .t3 => none
  | .t29 => none
  | .t31 => some 3
  | .t37 => none
  | .t9 => none
  | .t39 => some 11
  | .t41 => some 13
  | .t42 => some 13
  | .t5 => none
  | .t88 => some 2
  | .t22 => none
  | .t24 => none
  | .t121 => some 2
@[reducible] def ty' : Tg → List Ty
  | .no => [.b]
  | .t3 => [.i .i64]
  | .t29 => [.i .u64]
  | .t31 => [.i .i64, .i .i64, .i .u64]
  | .t37 => [.i .u32]
  | .t9 => [.s]
  | .t39 => [.i .u64, .i .u64, .i .i64, .i .i64, .i .u32, .i .u32, .i .i64, .i .i64, .i .i64, .i .i64, .s]
  | .t41 => [.i .i64, .i .u64, .i .u64, .i .u64, .i .i64, .i .i64, .i .u32, .i .u32, .i .i64, .i .i64, .i .i64, .i .i64, .s]
  | .t42 => [.i .i64, .i .u64, .i .u64, .i .u64, .i .i64, .i .i64, .i .u32, .i .u32, .i .i64, .i .i64, .i .i64, .i .i64, .s]
  | .t5 => [.i .u8]
  | .t88 => [.i .i64, .i .i64]
  | .t22 => [.l 31]
  | .t24 => [.i .i64]
  | .t121 => [.s, .i .i64]
def to' : (t : Tg) → tgT t → Tup Th (ty' t)
  | .no, x => (x, ())
  | .t3, x => (x, ())
  | .t29, x => (x, ())
  | .t31, x => (x.Kind, x.Field, x.Value, ())
  | .t37, x => (x, ())
  | .t9, x => (x, ())
  | .t39, x => (x.To, x.From, x.Vlan, x.Type_, x.Src, x.Dst, x.Life, x.Proto, x.Sport, x.Dport, x.Data, ())
  | .t41, x => (x.In, x.Meta, x.P.To, x.P.From, x.P.Vlan, x.P.Type_, x.P.Src, x.P.Dst, x.P.Life, x.P.Proto, x.P.Sport, x.P.Dport, x.P.Data, ())
  | .t42, x => (x.In, x.Meta, x.P.To, x.P.From, x.P.Vlan, x.P.Type_, x.P.Src, x.P.Dst, x.P.Life, x.P.Proto, x.P.Sport, x.P.Dport, x.P.Data, ())
  | .t5, x => (x, ())
  | .t88, x => (x.head, x.part, ())
  | .t22, x => (x, ())
  | .t24, x => (x, ())
  | .t121, x => (x.rest, x.err, ())
def fr' : (t : Tg) → Tup Th (ty' t) → tgT t
  | .no, y => y.1
  | .t3, y => y.1
  | .t29, y => y.1
  | .t31, y => ⟨y.1, y.2.1, y.2.2.1⟩
  | .t37, y => y.1
  | .t9, y => y.1
  | .t39, y => ⟨y.1, y.2.1, y.2.2.1, y.2.2.2.1, y.2.2.2.2.1, y.2.2.2.2.2.1, y.2.2.2.2.2.2.1, y.2.2.2.2.2.2.2.1, y.2.2.2.2.2.2.2.2.1, y.2.2.2.2.2.2.2.2.2.1, y.2.2.2.2.2.2.2.2.2.2.1⟩
  | .t41, y => ⟨y.1, y.2.1, ⟨y.2.2.1, y.2.2.2.1, y.2.2.2.2.1, y.2.2.2.2.2.1, y.2.2.2.2.2.2.1, y.2.2.2.2.2.2.2.1, y.2.2.2.2.2.2.2.2.1, y.2.2.2.2.2.2.2.2.2.1, y.2.2.2.2.2.2.2.2.2.2.1, y.2.2.2.2.2.2.2.2.2.2.2.1, y.2.2.2.2.2.2.2.2.2.2.2.2.1⟩⟩
  | .t42, y => ⟨y.1, y.2.1, ⟨y.2.2.1, y.2.2.2.1, y.2.2.2.2.1, y.2.2.2.2.2.1, y.2.2.2.2.2.2.1, y.2.2.2.2.2.2.2.1, y.2.2.2.2.2.2.2.2.1, y.2.2.2.2.2.2.2.2.2.1, y.2.2.2.2.2.2.2.2.2.2.1, y.2.2.2.2.2.2.2.2.2.2.2.1, y.2.2.2.2.2.2.2.2.2.2.2.2.1⟩⟩
  | .t5, y => y.1
  | .t88, y => ⟨y.1, y.2.1⟩
  | .t22, y => y.1
  | .t24, y => y.1
  | .t121, y => ⟨y.1, y.2.1⟩
def avs_3 (x : Int) : List AV := [.v (.int .i64 x)]
theorem sh_3 (x : Int) : AV.shut.shutL (avs_3 x) = true := shL_cons rfl (shL_nil)
theorem sw_3 (x : Int) : (wrapA (lay' (tg 3)) (avs_3 x)).shut = true := shL_head (sh_3 x)
def avs_29 (x : Int) : List AV := [.v (.int .u64 x)]
theorem sh_29 (x : Int) : AV.shut.shutL (avs_29 x) = true := shL_cons rfl (shL_nil)
theorem sw_29 (x : Int) : (wrapA (lay' (tg 29)) (avs_29 x)).shut = true := shL_head (sh_29 x)
def avs_31 (x : Action) : List AV := [.v (.int .i64 x.Kind), .v (.int .i64 x.Field), .v (.int .u64 x.Value)]
theorem sh_31 (x : Action) : AV.shut.shutL (avs_31 x) = true := shL_cons rfl (shL_cons rfl (shL_cons rfl (shL_nil)))
theorem sw_31 (x : Action) : (wrapA (lay' (tg 31)) (avs_31 x)).shut = true := sh_31 x
def avs_37 (x : Int) : List AV := [.v (.int .u32 x)]
theorem sh_37 (x : Int) : AV.shut.shutL (avs_37 x) = true := shL_cons rfl (shL_nil)
theorem sw_37 (x : Int) : (wrapA (lay' (tg 37)) (avs_37 x)).shut = true := shL_head (sh_37 x)
def avs_9 (x : (List UInt8)) : List AV := [.v (bytesV x)]
theorem sh_9 (x : (List UInt8)) : AV.shut.shutL (avs_9 x) = true := shL_cons rfl (shL_nil)
theorem sw_9 (x : (List UInt8)) : (wrapA (lay' (tg 9)) (avs_9 x)).shut = true := shL_head (sh_9 x)
def avs_39 (x : Packet) : List AV := [.v (.int .u64 x.To), .v (.int .u64 x.From), .v (.int .i64 x.Vlan), .v (.int .i64 x.Type_), .v (.int .u32 x.Src), .v (.int .u32 x.Dst), .v (.int .i64 x.Life), .v (.int .i64 x.Proto), .v (.int .i64 x.Sport), .v (.int .i64 x.Dport), .v (bytesV x.Data)]
theorem sh_39 (x : Packet) : AV.shut.shutL (avs_39 x) = true := shL_cons rfl (shL_cons rfl (shL_cons rfl (shL_cons rfl (shL_cons rfl (shL_cons rfl (shL_cons rfl (shL_cons rfl (shL_cons rfl (shL_cons rfl (shL_cons rfl (shL_nil)))))))))))
theorem sw_39 (x : Packet) : (wrapA (lay' (tg 39)) (avs_39 x)).shut = true := sh_39 x
def avs_41 (x : field_Seen) : List AV := [.v (.int .i64 x.In), .v (.int .u64 x.Meta), .v (.int .u64 x.P.To), .v (.int .u64 x.P.From), .v (.int .i64 x.P.Vlan), .v (.int .i64 x.P.Type_), .v (.int .u32 x.P.Src), .v (.int .u32 x.P.Dst), .v (.int .i64 x.P.Life), .v (.int .i64 x.P.Proto), .v (.int .i64 x.P.Sport), .v (.int .i64 x.P.Dport), .v (bytesV x.P.Data)]
theorem sh_41 (x : field_Seen) : AV.shut.shutL (avs_41 x) = true := shL_cons rfl (shL_cons rfl (shL_cons rfl (shL_cons rfl (shL_cons rfl (shL_cons rfl (shL_cons rfl (shL_cons rfl (shL_cons rfl (shL_cons rfl (shL_cons rfl (shL_cons rfl (shL_cons rfl (shL_nil)))))))))))))
theorem sw_41 (x : field_Seen) : (wrapA (lay' (tg 41)) (avs_41 x)).shut = true := sh_41 x
def avs_42 (x : droverref04_Seen) : List AV := [.v (.int .i64 x.In), .v (.int .u64 x.Meta), .v (.int .u64 x.P.To), .v (.int .u64 x.P.From), .v (.int .i64 x.P.Vlan), .v (.int .i64 x.P.Type_), .v (.int .u32 x.P.Src), .v (.int .u32 x.P.Dst), .v (.int .i64 x.P.Life), .v (.int .i64 x.P.Proto), .v (.int .i64 x.P.Sport), .v (.int .i64 x.P.Dport), .v (bytesV x.P.Data)]
theorem sh_42 (x : droverref04_Seen) : AV.shut.shutL (avs_42 x) = true := shL_cons rfl (shL_cons rfl (shL_cons rfl (shL_cons rfl (shL_cons rfl (shL_cons rfl (shL_cons rfl (shL_cons rfl (shL_cons rfl (shL_cons rfl (shL_cons rfl (shL_cons rfl (shL_cons rfl (shL_nil)))))))))))))
theorem sw_42 (x : droverref04_Seen) : (wrapA (lay' (tg 42)) (avs_42 x)).shut = true := sh_42 x
def avs_5 (x : Int) : List AV := [.v (.int .u8 x)]
theorem sh_5 (x : Int) : AV.shut.shutL (avs_5 x) = true := shL_cons rfl (shL_nil)
theorem sw_5 (x : Int) : (wrapA (lay' (tg 5)) (avs_5 x)).shut = true := shL_head (sh_5 x)
def avs_88 (x : frame_sums) : List AV := [.v (.int .i64 x.head), .v (.int .i64 x.part)]
theorem sh_88 (x : frame_sums) : AV.shut.shutL (avs_88 x) = true := shL_cons rfl (shL_cons rfl (shL_nil))
theorem sw_88 (x : frame_sums) : (wrapA (lay' (tg 88)) (avs_88 x)).shut = true := sh_88 x
def avs_22 (x : (List Action)) : List AV := [.lst (lay' (tg 31) |> laySize) (x.map fun y => wrapA (lay' (tg 31)) (avs_31 y))]
theorem sh_22 (x : (List Action)) : AV.shut.shutL (avs_22 x) = true := shL_cons (shL_map fun y => sw_31 y) (shL_nil)
theorem sw_22 (x : (List Action)) : (wrapA (lay' (tg 22)) (avs_22 x)).shut = true := shL_head (sh_22 x)
def avs_24 (x : Int) : List AV := [.v (.int .i64 x)]
theorem sh_24 (x : Int) : AV.shut.shutL (avs_24 x) = true := shL_cons rfl (shL_nil)
theorem sw_24 (x : Int) : (wrapA (lay' (tg 24)) (avs_24 x)).shut = true := shL_head (sh_24 x)
def avs_121 (x : nums_Reader) : List AV := [.v (bytesV x.rest), .v (.int .i64 x.err)]
theorem sh_121 (x : nums_Reader) : AV.shut.shutL (avs_121 x) = true := shL_cons rfl (shL_cons rfl (shL_nil))
theorem sw_121 (x : nums_Reader) : (wrapA (lay' (tg 121)) (avs_121 x)).shut = true := sh_121 x
def avs' : (t : Tg) → tgT t → List AV
  | .no, x => [.v (.bool x)]
  | .t3, x => avs_3 x
  | .t29, x => avs_29 x
  | .t31, x => avs_31 x
  | .t37, x => avs_37 x
  | .t9, x => avs_9 x
  | .t39, x => avs_39 x
  | .t41, x => avs_41 x
  | .t42, x => avs_42 x
  | .t5, x => avs_5 x
  | .t88, x => avs_88 x
  | .t22, x => avs_22 x
  | .t24, x => avs_24 x
  | .t121, x => avs_121 x
theorem shut' : ∀ (t : Tg) (x : tgT t), AV.shut.shutL (avs' t x) = true
  | .no, x => rfl
  | .t3, x => sh_3 x
  | .t29, x => sh_29 x
  | .t31, x => sh_31 x
  | .t37, x => sh_37 x
  | .t9, x => sh_9 x
  | .t39, x => sh_39 x
  | .t41, x => sh_41 x
  | .t42, x => sh_42 x
  | .t5, x => sh_5 x
  | .t88, x => sh_88 x
  | .t22, x => sh_22 x
  | .t24, x => sh_24 x
  | .t121, x => sh_121 x
def G : CodG Th where
  lay c := lay' (tg c)
  ty c := ty' (tg c)
  to c x := to' (tg c) x
  fr c y := fr' (tg c) y
  avs c x := avs' (tg c) x
abbrev C : Cod Th := G.cod
theorem av' : ∀ (t : Tg) (x : tgT t), (cellsG (ty' t) (to' t x)).map (SV.av G.cod) = avs' t x := by intro t x; cases t <;> rfl
theorem gok : CodGOk G := ⟨fun c => (by cases h : tg c <;> simp only [G, h] <;> rfl), fun c y => (to_fr' (tg c) y), fun c x => av' (tg c) x, fun c x a h => shL_mem (shut' (tg c) x) a h, fun c x => fr_to' (tg c) x⟩
where
  fr_to' : ∀ (t : Tg) (x : tgT t), fr' t (to' t x) = x := by intro t x; cases t <;> rfl
  to_fr' : ∀ (t : Tg) (y : Tup Th (ty' t)), to' t (fr' t y) = y := by intro t y; cases t <;> rfl
end Go.Proofs.Act
