/- A part of a law's proof: DfaTy. -/
import Derived.Test.YthhbggmlfilpdaaDoorSvCod
set_option linter.unusedSimpArgs false
set_option linter.constructorNameAsVariable false
namespace Go.Proofs.Dfa
open Go Go.Ab
set_option linter.unusedVariables false
structure ExprNode where
  Kind : Int
  Switch : Int
  A : Int
  B : Int
  deriving DecidableEq, Inhabited
structure Expr where
  Nodes : (List ExprNode)
  deriving DecidableEq, Inhabited
structure NfaState where
  Switch : Int
  Ends : Bool
  Next : (List Int)
  deriving DecidableEq, Inhabited
structure Nfa where
  States : (List NfaState)
  deriving DecidableEq, Inhabited
structure Dfa where
  Switches : Int
  Next : (List (List Int))
  Ends : (List Bool)
  deriving DecidableEq, Inhabited
structure droverref17_Token where
  Sign : Int
  N : Int
  deriving DecidableEq, Inhabited
structure droverref17_Reading where
  L : (List droverref17_Token)
  At : Int
  Deep : Int
  Most : Int
  Bad : Bool
  deriving DecidableEq, Inhabited
structure droverref18_Making where
  L : (List NfaState)
  Behind : (List (List Int))
  deriving DecidableEq, Inhabited
structure droverref18_Glue where
  First : (List Int)
  Last : (List Int)
  Null : Bool
  deriving DecidableEq, Inhabited
structure dfa_pair where
  a : Int
  b : Int
  deriving DecidableEq, Inhabited
structure droverref17_Pool where
  L : (List ExprNode)
  Sizes : (List Int)
  deriving DecidableEq, Inhabited
inductive Tg where
  | no
  | t3
  | t104
  | t22
  | t24
  | t4
  | t40
  | t69
  | t28
  | t30
  | t33
  | t34
  | t36
  | t5
  | t96
  | t59
  | t64
  | t71
  | t73
  | t83
  | t93
  | t101
  | t9
def tg (c : Nat) : Tg :=
  bif Nat.beq c 3 then .t3 else
  bif Nat.beq c 104 then .t104 else
  bif Nat.beq c 22 then .t22 else
  bif Nat.beq c 24 then .t24 else
  bif Nat.beq c 4 then .t4 else
  bif Nat.beq c 40 then .t40 else
  bif Nat.beq c 69 then .t69 else
  bif Nat.beq c 28 then .t28 else
  bif Nat.beq c 30 then .t30 else
  bif Nat.beq c 33 then .t33 else
  bif Nat.beq c 34 then .t34 else
  bif Nat.beq c 36 then .t36 else
  bif Nat.beq c 5 then .t5 else
  bif Nat.beq c 96 then .t96 else
  bif Nat.beq c 59 then .t59 else
  bif Nat.beq c 64 then .t64 else
  bif Nat.beq c 71 then .t71 else
  bif Nat.beq c 73 then .t73 else
  bif Nat.beq c 83 then .t83 else
  bif Nat.beq c 93 then .t93 else
  bif Nat.beq c 101 then .t101 else
  bif Nat.beq c 9 then .t9 else
  .no
@[reducible] def tgT : Tg -> Type
  | .no => Bool
  | .t3 => Int
  | .t104 => ExprNode
  | .t22 => (List ExprNode)
  | .t24 => Expr
  | .t4 => Bool
  | .t40 => (List Int)
  | .t69 => NfaState
  | .t28 => (List NfaState)
  | .t30 => Nfa
  | .t33 => (List (List Int))
  | .t34 => (List Bool)
  | .t36 => Dfa
  | .t5 => Int
  | .t96 => droverref17_Token
  | .t59 => (List droverref17_Token)
  | .t64 => droverref17_Reading
  | .t71 => droverref18_Making
  | .t73 => droverref18_Glue
  | .t83 => Int
  | .t93 => dfa_pair
  | .t101 => droverref17_Pool
  | .t9 => (List UInt8)
@[reducible] def Th (c : Nat) : Type := tgT (tg c)
def lay' : Tg -> Option Nat
  | .no => none
  | .t3 => none
  | .t104 => some 4
  | .t22 => none
  | .t24 => some 1
  | .t4 => none
  | .t40 => none
  | .t69 => some 3
  | .t28 => none
  | .t30 => some 1
  | .t33 => none
  | .t34 => none
  | .t36 => some 3
  | .t5 => none
  | .t96 => some 2
  | .t59 => none
  | .t64 => some 5
  | .t71 => some 2
  | .t73 => some 3
  | .t83 => none
  | .t93 => some 2
  | .t101 => some 2
  | .t9 => none
@[reducible] def ty' : Tg -> List Ty
  | .no => [.b]
  | .t3 => [.i .i64]
  | .t104 => [.i .i64, .i .i64, .i .i64, .i .i64]
  | .t22 => [.l 104]
  | .t24 => [.l 104]
  | .t4 => [.b]
  | .t40 => [.l 3]
  | .t69 => [.i .i64, .b, .l 3]
  | .t28 => [.l 69]
  | .t30 => [.l 69]
  | .t33 => [.l 40]
  | .t34 => [.l 4]
  | .t36 => [.i .i64, .l 40, .l 4]
  | .t5 => [.i .u8]
  | .t96 => [.i .u8, .i .i64]
  | .t59 => [.l 96]
  | .t64 => [.l 96, .i .i64, .i .i64, .i .i64, .b]
  | .t71 => [.l 69, .l 40]
  | .t73 => [.l 3, .l 3, .b]
  | .t83 => [.i .u64]
  | .t93 => [.i .i64, .i .i64]
  | .t101 => [.l 104, .l 3]
  | .t9 => [.s]
def to' : (t : Tg) -> tgT t -> Tup Th (ty' t)
  | .no, x => (x, ())
  | .t3, x => (x, ())
  | .t104, x => (x.Kind, x.Switch, x.A, x.B, ())
  | .t22, x => (x, ())
  | .t24, x => (x.Nodes, ())
  | .t4, x => (x, ())
  | .t40, x => (x, ())
  | .t69, x => (x.Switch, x.Ends, x.Next, ())
  | .t28, x => (x, ())
  | .t30, x => (x.States, ())
  | .t33, x => (x, ())
  | .t34, x => (x, ())
  | .t36, x => (x.Switches, x.Next, x.Ends, ())
  | .t5, x => (x, ())
  | .t96, x => (x.Sign, x.N, ())
  | .t59, x => (x, ())
  | .t64, x => (x.L, x.At, x.Deep, x.Most, x.Bad, ())
  | .t71, x => (x.L, x.Behind, ())
  | .t73, x => (x.First, x.Last, x.Null, ())
  | .t83, x => (x, ())
  | .t93, x => (x.a, x.b, ())
  | .t101, x => (x.L, x.Sizes, ())
  | .t9, x => (x, ())
def fr' : (t : Tg) -> Tup Th (ty' t) -> tgT t
  | .no, y => y.1
  | .t3, y => y.1
  | .t104, y => ⟨y.1, y.2.1, y.2.2.1, y.2.2.2.1⟩
  | .t22, y => y.1
  | .t24, y => ⟨y.1⟩
  | .t4, y => y.1
  | .t40, y => y.1
  | .t69, y => ⟨y.1, y.2.1, y.2.2.1⟩
  | .t28, y => y.1
  | .t30, y => ⟨y.1⟩
  | .t33, y => y.1
  | .t34, y => y.1
  | .t36, y => ⟨y.1, y.2.1, y.2.2.1⟩
  | .t5, y => y.1
  | .t96, y => ⟨y.1, y.2.1⟩
  | .t59, y => y.1
  | .t64, y => ⟨y.1, y.2.1, y.2.2.1, y.2.2.2.1, y.2.2.2.2.1⟩
  | .t71, y => ⟨y.1, y.2.1⟩
  | .t73, y => ⟨y.1, y.2.1, y.2.2.1⟩
  | .t83, y => y.1
  | .t93, y => ⟨y.1, y.2.1⟩
  | .t101, y => ⟨y.1, y.2.1⟩
  | .t9, y => y.1
def avs_3 (x : Int) : List AV := [.v (.int .i64 x)]
theorem sh_3 (x : Int) : AV.shut.shutL (avs_3 x) = true := shL_cons rfl (shL_nil)
theorem sw_3 (x : Int) : (wrapA (lay' (tg 3)) (avs_3 x)).shut = true := shL_head (sh_3 x)
def avs_104 (x : ExprNode) : List AV := [.v (.int .i64 x.Kind), .v (.int .i64 x.Switch), .v (.int .i64 x.A), .v (.int .i64 x.B)]
theorem sh_104 (x : ExprNode) : AV.shut.shutL (avs_104 x) = true := shL_cons rfl (shL_cons rfl (shL_cons rfl (shL_cons rfl (shL_nil))))
theorem sw_104 (x : ExprNode) : (wrapA (lay' (tg 104)) (avs_104 x)).shut = true := sh_104 x
def avs_22 (x : (List ExprNode)) : List AV := [.lst (lay' (tg 104) |> laySize) (x.map fun y => wrapA (lay' (tg 104)) (avs_104 y))]
theorem sh_22 (x : (List ExprNode)) : AV.shut.shutL (avs_22 x) = true := shL_cons (shL_map fun y => sw_104 y) (shL_nil)
def avs_24 (x : Expr) : List AV := [.lst (lay' (tg 104) |> laySize) (x.Nodes.map fun y => wrapA (lay' (tg 104)) (avs_104 y))]
theorem sh_24 (x : Expr) : AV.shut.shutL (avs_24 x) = true := shL_cons (shL_map fun y => sw_104 y) (shL_nil)
def avs_4 (x : Bool) : List AV := [.v (.bool x)]
theorem sh_4 (x : Bool) : AV.shut.shutL (avs_4 x) = true := shL_cons rfl (shL_nil)
theorem sw_4 (x : Bool) : (wrapA (lay' (tg 4)) (avs_4 x)).shut = true := shL_head (sh_4 x)
def avs_40 (x : (List Int)) : List AV := [.lst (lay' (tg 3) |> laySize) (x.map fun y => wrapA (lay' (tg 3)) (avs_3 y))]
theorem sh_40 (x : (List Int)) : AV.shut.shutL (avs_40 x) = true := shL_cons (shL_map fun y => sw_3 y) (shL_nil)
theorem sw_40 (x : (List Int)) : (wrapA (lay' (tg 40)) (avs_40 x)).shut = true := shL_head (sh_40 x)
def avs_69 (x : NfaState) : List AV := [.v (.int .i64 x.Switch), .v (.bool x.Ends), .lst (lay' (tg 3) |> laySize) (x.Next.map fun y => wrapA (lay' (tg 3)) (avs_3 y))]
theorem sh_69 (x : NfaState) : AV.shut.shutL (avs_69 x) = true := shL_cons rfl (shL_cons rfl (shL_cons (shL_map fun y => sw_3 y) (shL_nil)))
theorem sw_69 (x : NfaState) : (wrapA (lay' (tg 69)) (avs_69 x)).shut = true := sh_69 x
def avs_28 (x : (List NfaState)) : List AV := [.lst (lay' (tg 69) |> laySize) (x.map fun y => wrapA (lay' (tg 69)) (avs_69 y))]
theorem sh_28 (x : (List NfaState)) : AV.shut.shutL (avs_28 x) = true := shL_cons (shL_map fun y => sw_69 y) (shL_nil)
def avs_30 (x : Nfa) : List AV := [.lst (lay' (tg 69) |> laySize) (x.States.map fun y => wrapA (lay' (tg 69)) (avs_69 y))]
theorem sh_30 (x : Nfa) : AV.shut.shutL (avs_30 x) = true := shL_cons (shL_map fun y => sw_69 y) (shL_nil)
def avs_33 (x : (List (List Int))) : List AV := [.lst (lay' (tg 40) |> laySize) (x.map fun y => wrapA (lay' (tg 40)) (avs_40 y))]
theorem sh_33 (x : (List (List Int))) : AV.shut.shutL (avs_33 x) = true := shL_cons (shL_map fun y => sw_40 y) (shL_nil)
def avs_34 (x : (List Bool)) : List AV := [.lst (lay' (tg 4) |> laySize) (x.map fun y => wrapA (lay' (tg 4)) (avs_4 y))]
theorem sh_34 (x : (List Bool)) : AV.shut.shutL (avs_34 x) = true := shL_cons (shL_map fun y => sw_4 y) (shL_nil)
def avs_36 (x : Dfa) : List AV := [.v (.int .i64 x.Switches), .lst (lay' (tg 40) |> laySize) (x.Next.map fun y => wrapA (lay' (tg 40)) (avs_40 y)), .lst (lay' (tg 4) |> laySize) (x.Ends.map fun y => wrapA (lay' (tg 4)) (avs_4 y))]
theorem sh_36 (x : Dfa) : AV.shut.shutL (avs_36 x) = true := shL_cons rfl (shL_cons (shL_map fun y => sw_40 y) (shL_cons (shL_map fun y => sw_4 y) (shL_nil)))
def avs_5 (x : Int) : List AV := [.v (.int .u8 x)]
theorem sh_5 (x : Int) : AV.shut.shutL (avs_5 x) = true := shL_cons rfl (shL_nil)
def avs_96 (x : droverref17_Token) : List AV := [.v (.int .u8 x.Sign), .v (.int .i64 x.N)]
theorem sh_96 (x : droverref17_Token) : AV.shut.shutL (avs_96 x) = true := shL_cons rfl (shL_cons rfl (shL_nil))
theorem sw_96 (x : droverref17_Token) : (wrapA (lay' (tg 96)) (avs_96 x)).shut = true := sh_96 x
def avs_59 (x : (List droverref17_Token)) : List AV := [.lst (lay' (tg 96) |> laySize) (x.map fun y => wrapA (lay' (tg 96)) (avs_96 y))]
theorem sh_59 (x : (List droverref17_Token)) : AV.shut.shutL (avs_59 x) = true := shL_cons (shL_map fun y => sw_96 y) (shL_nil)
def avs_64 (x : droverref17_Reading) : List AV := [.lst (lay' (tg 96) |> laySize) (x.L.map fun y => wrapA (lay' (tg 96)) (avs_96 y)), .v (.int .i64 x.At), .v (.int .i64 x.Deep), .v (.int .i64 x.Most), .v (.bool x.Bad)]
theorem sh_64 (x : droverref17_Reading) : AV.shut.shutL (avs_64 x) = true := shL_cons (shL_map fun y => sw_96 y) (shL_cons rfl (shL_cons rfl (shL_cons rfl (shL_cons rfl (shL_nil)))))
def avs_71 (x : droverref18_Making) : List AV := [.lst (lay' (tg 69) |> laySize) (x.L.map fun y => wrapA (lay' (tg 69)) (avs_69 y)), .lst (lay' (tg 40) |> laySize) (x.Behind.map fun y => wrapA (lay' (tg 40)) (avs_40 y))]
theorem sh_71 (x : droverref18_Making) : AV.shut.shutL (avs_71 x) = true := shL_cons (shL_map fun y => sw_69 y) (shL_cons (shL_map fun y => sw_40 y) (shL_nil))
def avs_73 (x : droverref18_Glue) : List AV := [.lst (lay' (tg 3) |> laySize) (x.First.map fun y => wrapA (lay' (tg 3)) (avs_3 y)), .lst (lay' (tg 3) |> laySize) (x.Last.map fun y => wrapA (lay' (tg 3)) (avs_3 y)), .v (.bool x.Null)]
theorem sh_73 (x : droverref18_Glue) : AV.shut.shutL (avs_73 x) = true := shL_cons (shL_map fun y => sw_3 y) (shL_cons (shL_map fun y => sw_3 y) (shL_cons rfl (shL_nil)))
def avs_83 (x : Int) : List AV := [.v (.int .u64 x)]
theorem sh_83 (x : Int) : AV.shut.shutL (avs_83 x) = true := shL_cons rfl (shL_nil)
def avs_93 (x : dfa_pair) : List AV := [.v (.int .i64 x.a), .v (.int .i64 x.b)]
theorem sh_93 (x : dfa_pair) : AV.shut.shutL (avs_93 x) = true := shL_cons rfl (shL_cons rfl (shL_nil))
def avs_101 (x : droverref17_Pool) : List AV := [.lst (lay' (tg 104) |> laySize) (x.L.map fun y => wrapA (lay' (tg 104)) (avs_104 y)), .lst (lay' (tg 3) |> laySize) (x.Sizes.map fun y => wrapA (lay' (tg 3)) (avs_3 y))]
theorem sh_101 (x : droverref17_Pool) : AV.shut.shutL (avs_101 x) = true := shL_cons (shL_map fun y => sw_104 y) (shL_cons (shL_map fun y => sw_3 y) (shL_nil))
def avs_9 (x : (List UInt8)) : List AV := [.v (bytesV x)]
theorem sh_9 (x : (List UInt8)) : AV.shut.shutL (avs_9 x) = true := shL_cons rfl (shL_nil)
def avs' : (t : Tg) -> tgT t -> List AV
  | .no, x => [.v (.bool x)]
  | .t3, x => avs_3 x
  | .t104, x => avs_104 x
  | .t22, x => avs_22 x
  | .t24, x => avs_24 x
  | .t4, x => avs_4 x
  | .t40, x => avs_40 x
  | .t69, x => avs_69 x
  | .t28, x => avs_28 x
  | .t30, x => avs_30 x
  | .t33, x => avs_33 x
  | .t34, x => avs_34 x
  | .t36, x => avs_36 x
  | .t5, x => avs_5 x
  | .t96, x => avs_96 x
  | .t59, x => avs_59 x
  | .t64, x => avs_64 x
  | .t71, x => avs_71 x
  | .t73, x => avs_73 x
  | .t83, x => avs_83 x
  | .t93, x => avs_93 x
  | .t101, x => avs_101 x
  | .t9, x => avs_9 x
theorem shut' : ∀ (t : Tg) (x : tgT t), AV.shut.shutL (avs' t x) = true
  | .no, x => rfl
  | .t3, x => sh_3 x
  | .t104, x => sh_104 x
  | .t22, x => sh_22 x
  | .t24, x => sh_24 x
  | .t4, x => sh_4 x
  | .t40, x => sh_40 x
  | .t69, x => sh_69 x
  | .t28, x => sh_28 x
  | .t30, x => sh_30 x
  | .t33, x => sh_33 x
  | .t34, x => sh_34 x
  | .t36, x => sh_36 x
  | .t5, x => sh_5 x
  | .t96, x => sh_96 x
  | .t59, x => sh_59 x
  | .t64, x => sh_64 x
  | .t71, x => sh_71 x
  | .t73, x => sh_73 x
  | .t83, x => sh_83 x
  | .t93, x => sh_93 x
  | .t101, x => sh_101 x
  | .t9, x => sh_9 x
def G : CodG Th where
  lay c := lay' (tg c)
  ty c := ty' (tg c)
  to c x := to' (tg c) x
  fr c y := fr' (tg c) y
  avs c x := avs' (tg c) x
abbrev C : Cod Th := G.cod
theorem av' : ∀ (t : Tg) (x : tgT t), (cellsG (ty' t) (to' t x)).map (SV.av G.cod) = avs' t x := by intro t x; cases t <;> rfl
theorem gok : CodGOk G := ⟨fun c => (by cases h : tg c <;> simp only [G, h] <;> rfl), fun c y => (to_fr' (tg c) y), fun c x => av' (tg c) x, fun c x a h => shL_mem (shut' (tg c) x) a h, fun c x => fr_to' (tg c) x⟩
where
  fr_to' : ∀ (t : Tg) (x : tgT t), fr' t (to' t x) = x := by intro t x; cases t <;> rfl
  to_fr' : ∀ (t : Tg) (y : Tup Th (ty' t)), to' t (fr' t y) = y := by intro t y; cases t <;> rfl
end Go.Proofs.Dfa
