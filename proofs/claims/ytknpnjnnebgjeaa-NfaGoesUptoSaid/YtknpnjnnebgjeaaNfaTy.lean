/- A part of a law's proof: NfaTy. -/
import Derived.Test.YtknpnjnnebgjeaaSvCod
set_option linter.unusedSimpArgs false
set_option linter.constructorNameAsVariable false
namespace Go.Proofs.Nfa
open Go Go.Ab
set_option linter.unusedVariables false
structure NfaState where
  Switch : Int
  Ends : Bool
  Next : (List Int)
  deriving DecidableEq, Inhabited
structure Nfa where
  States : (List NfaState)
  deriving DecidableEq, Inhabited
structure ExprNode where
  Kind : Int
  Switch : Int
  A : Int
  B : Int
  deriving DecidableEq, Inhabited
structure Expr where
  Nodes : (List ExprNode)
  deriving DecidableEq, Inhabited
structure droverref17_Token where
  Sign : Int
  N : Int
  deriving DecidableEq, Inhabited
structure droverref17_Reading where
  L : (List droverref17_Token)
  At : Int
  Deep : Int
  Most : Int
  Bad : Bool
  deriving DecidableEq, Inhabited
structure nfa_builder where
  nodes : (List ExprNode)
  states : (List NfaState)
  behind : (List Int)
  deriving DecidableEq, Inhabited
structure nfa_part where
  first : Int
  last : Int
  null : Bool
  deriving DecidableEq, Inhabited
structure droverref17_Pool where
  L : (List ExprNode)
  Sizes : (List Int)
  deriving DecidableEq, Inhabited
inductive Tg where
  | no
  | t3
  | t4
  | t25
  | t34
  | t22
  | t24
  | t73
  | t36
  | t38
  | t5
  | t66
  | t49
  | t54
  | t46
  | t58
  | t60
  | t62
  | t77
def tg (c : Nat) : Tg :=
  bif Nat.beq c 3 then .t3 else
  bif Nat.beq c 4 then .t4 else
  bif Nat.beq c 25 then .t25 else
  bif Nat.beq c 34 then .t34 else
  bif Nat.beq c 22 then .t22 else
  bif Nat.beq c 24 then .t24 else
  bif Nat.beq c 73 then .t73 else
  bif Nat.beq c 36 then .t36 else
  bif Nat.beq c 38 then .t38 else
  bif Nat.beq c 5 then .t5 else
  bif Nat.beq c 66 then .t66 else
  bif Nat.beq c 49 then .t49 else
  bif Nat.beq c 54 then .t54 else
  bif Nat.beq c 46 then .t46 else
  bif Nat.beq c 58 then .t58 else
  bif Nat.beq c 60 then .t60 else
  bif Nat.beq c 62 then .t62 else
  bif Nat.beq c 77 then .t77 else
  .no
@[reducible] def tgT : Tg → Type
  | .no => Bool
  | .t3 => Int
  | .t4 => Bool
  | .t25 => (List Int)
  | .t34 => NfaState
  | .t22 => (List NfaState)
  | .t24 => Nfa
  | .t73 => ExprNode
  | .t36 => (List ExprNode)
  | .t38 => Expr
  | .t5 => Int
  | .t66 => droverref17_Token
  | .t49 => (List droverref17_Token)
  | .t54 => droverref17_Reading
  | .t46 => Int
  | .t58 => (List Int)
  | .t60 => nfa_builder
  | .t62 => nfa_part
  | .t77 => droverref17_Pool
@[reducible] def Th (c : Nat) : Type := tgT (tg c)
def lay' : Tg → Option Nat
  | .no => none
  | .t3 => none
  | .t4 => none
  | .t25 => none
  | .t34 => some 3
  | .t22 => none
  | .t24 => some 1
  | .t73 => some 4
  | .t36 => none
  | .t38 => some 1
  | .t5 => none
  | .t66 => some 2
  | .t49 => none
  | .t54 => some 5
  | .t46 => none
  | .t58 => none
  | .t60 => some 3
  | .t62 => some 3
  | .t77 => some 2
@[reducible] def ty' : Tg → List Ty
  | .no => [.b]
  | .t3 => [.i .i64]
  | .t4 => [.b]
  | .t25 => [.l 3]
  | .t34 => [.i .i64, .b, .l 3]
  | .t22 => [.l 34]
  | .t24 => [.l 34]
  | .t73 => [.i .i64, .i .i64, .i .i64, .i .i64]
  | .t36 => [.l 73]
  | .t38 => [.l 73]
  | .t5 => [.i .u8]
  | .t66 => [.i .u8, .i .i64]
  | .t49 => [.l 66]
  | .t54 => [.l 66, .i .i64, .i .i64, .i .i64, .b]
  | .t46 => [.i .u64]
  | .t58 => [.l 46]
  | .t60 => [.l 73, .l 34, .l 46]
  | .t62 => [.i .u64, .i .u64, .b]
  | .t77 => [.l 73, .l 3]
def to' : (t : Tg) → tgT t → Tup Th (ty' t)
  | .no, x => (x, ())
  | .t3, x => (x, ())
  | .t4, x => (x, ())
  | .t25, x => (x, ())
  | .t34, x => (x.Switch, x.Ends, x.Next, ())
  | .t22, x => (x, ())
  | .t24, x => (x.States, ())
  | .t73, x => (x.Kind, x.Switch, x.A, x.B, ())
  | .t36, x => (x, ())
  | .t38, x => (x.Nodes, ())
  | .t5, x => (x, ())
  | .t66, x => (x.Sign, x.N, ())
  | .t49, x => (x, ())
  | .t54, x => (x.L, x.At, x.Deep, x.Most, x.Bad, ())
  | .t46, x => (x, ())
  | .t58, x => (x, ())
  | .t60, x => (x.nodes, x.states, x.behind, ())
  | .t62, x => (x.first, x.last, x.null, ())
  | .t77, x => (x.L, x.Sizes, ())
def fr' : (t : Tg) → Tup Th (ty' t) → tgT t
  | .no, y => y.1
  | .t3, y => y.1
  | .t4, y => y.1
  | .t25, y => y.1
  | .t34, y => ⟨y.1, y.2.1, y.2.2.1⟩
  | .t22, y => y.1
  | .t24, y => ⟨y.1⟩
  | .t73, y => ⟨y.1, y.2.1, y.2.2.1, y.2.2.2.1⟩
  | .t36, y => y.1
  | .t38, y => ⟨y.1⟩
  | .t5, y => y.1
  | .t66, y => ⟨y.1, y.2.1⟩
  | .t49, y => y.1
  | .t54, y => ⟨y.1, y.2.1, y.2.2.1, y.2.2.2.1, y.2.2.2.2.1⟩
  | .t46, y => y.1
  | .t58, y => y.1
  | .t60, y => ⟨y.1, y.2.1, y.2.2.1⟩
  | .t62, y => ⟨y.1, y.2.1, y.2.2.1⟩
  | .t77, y => ⟨y.1, y.2.1⟩
def avs_3 (x : Int) : List AV := [.v (.int .i64 x)]
theorem sh_3 (x : Int) : AV.shut.shutL (avs_3 x) = true := shL_cons rfl (shL_nil)
theorem sw_3 (x : Int) : (wrapA (lay' (tg 3)) (avs_3 x)).shut = true := shL_head (sh_3 x)
def avs_4 (x : Bool) : List AV := [.v (.bool x)]
theorem sh_4 (x : Bool) : AV.shut.shutL (avs_4 x) = true := shL_cons rfl (shL_nil)
theorem sw_4 (x : Bool) : (wrapA (lay' (tg 4)) (avs_4 x)).shut = true := shL_head (sh_4 x)
def avs_25 (x : (List Int)) : List AV := [.lst (lay' (tg 3) |> laySize) (x.map fun y => wrapA (lay' (tg 3)) (avs_3 y))]
theorem sh_25 (x : (List Int)) : AV.shut.shutL (avs_25 x) = true := shL_cons (shL_map fun y => sw_3 y) (shL_nil)
theorem sw_25 (x : (List Int)) : (wrapA (lay' (tg 25)) (avs_25 x)).shut = true := shL_head (sh_25 x)
def avs_34 (x : NfaState) : List AV := [.v (.int .i64 x.Switch), .v (.bool x.Ends), .lst (lay' (tg 3) |> laySize) (x.Next.map fun y => wrapA (lay' (tg 3)) (avs_3 y))]
theorem sh_34 (x : NfaState) : AV.shut.shutL (avs_34 x) = true := shL_cons rfl (shL_cons rfl (shL_cons (shL_map fun y => sw_3 y) (shL_nil)))
theorem sw_34 (x : NfaState) : (wrapA (lay' (tg 34)) (avs_34 x)).shut = true := sh_34 x
def avs_22 (x : (List NfaState)) : List AV := [.lst (lay' (tg 34) |> laySize) (x.map fun y => wrapA (lay' (tg 34)) (avs_34 y))]
theorem sh_22 (x : (List NfaState)) : AV.shut.shutL (avs_22 x) = true := shL_cons (shL_map fun y => sw_34 y) (shL_nil)
theorem sw_22 (x : (List NfaState)) : (wrapA (lay' (tg 22)) (avs_22 x)).shut = true := shL_head (sh_22 x)
def avs_24 (x : Nfa) : List AV := [.lst (lay' (tg 34) |> laySize) (x.States.map fun y => wrapA (lay' (tg 34)) (avs_34 y))]
theorem sh_24 (x : Nfa) : AV.shut.shutL (avs_24 x) = true := shL_cons (shL_map fun y => sw_34 y) (shL_nil)
theorem sw_24 (x : Nfa) : (wrapA (lay' (tg 24)) (avs_24 x)).shut = true := sh_24 x
def avs_73 (x : ExprNode) : List AV := [.v (.int .i64 x.Kind), .v (.int .i64 x.Switch), .v (.int .i64 x.A), .v (.int .i64 x.B)]
theorem sh_73 (x : ExprNode) : AV.shut.shutL (avs_73 x) = true := shL_cons rfl (shL_cons rfl (shL_cons rfl (shL_cons rfl (shL_nil))))
theorem sw_73 (x : ExprNode) : (wrapA (lay' (tg 73)) (avs_73 x)).shut = true := sh_73 x
def avs_36 (x : (List ExprNode)) : List AV := [.lst (lay' (tg 73) |> laySize) (x.map fun y => wrapA (lay' (tg 73)) (avs_73 y))]
theorem sh_36 (x : (List ExprNode)) : AV.shut.shutL (avs_36 x) = true := shL_cons (shL_map fun y => sw_73 y) (shL_nil)
theorem sw_36 (x : (List ExprNode)) : (wrapA (lay' (tg 36)) (avs_36 x)).shut = true := shL_head (sh_36 x)
def avs_38 (x : Expr) : List AV := [.lst (lay' (tg 73) |> laySize) (x.Nodes.map fun y => wrapA (lay' (tg 73)) (avs_73 y))]
theorem sh_38 (x : Expr) : AV.shut.shutL (avs_38 x) = true := shL_cons (shL_map fun y => sw_73 y) (shL_nil)
theorem sw_38 (x : Expr) : (wrapA (lay' (tg 38)) (avs_38 x)).shut = true := sh_38 x
def avs_5 (x : Int) : List AV := [.v (.int .u8 x)]
theorem sh_5 (x : Int) : AV.shut.shutL (avs_5 x) = true := shL_cons rfl (shL_nil)
theorem sw_5 (x : Int) : (wrapA (lay' (tg 5)) (avs_5 x)).shut = true := shL_head (sh_5 x)
def avs_66 (x : droverref17_Token) : List AV := [.v (.int .u8 x.Sign), .v (.int .i64 x.N)]
theorem sh_66 (x : droverref17_Token) : AV.shut.shutL (avs_66 x) = true := shL_cons rfl (shL_cons rfl (shL_nil))
theorem sw_66 (x : droverref17_Token) : (wrapA (lay' (tg 66)) (avs_66 x)).shut = true := sh_66 x
def avs_49 (x : (List droverref17_Token)) : List AV := [.lst (lay' (tg 66) |> laySize) (x.map fun y => wrapA (lay' (tg 66)) (avs_66 y))]
theorem sh_49 (x : (List droverref17_Token)) : AV.shut.shutL (avs_49 x) = true := shL_cons (shL_map fun y => sw_66 y) (shL_nil)
theorem sw_49 (x : (List droverref17_Token)) : (wrapA (lay' (tg 49)) (avs_49 x)).shut = true := shL_head (sh_49 x)
def avs_54 (x : droverref17_Reading) : List AV := [.lst (lay' (tg 66) |> laySize) (x.L.map fun y => wrapA (lay' (tg 66)) (avs_66 y)), .v (.int .i64 x.At), .v (.int .i64 x.Deep), .v (.int .i64 x.Most), .v (.bool x.Bad)]
theorem sh_54 (x : droverref17_Reading) : AV.shut.shutL (avs_54 x) = true := shL_cons (shL_map fun y => sw_66 y) (shL_cons rfl (shL_cons rfl (shL_cons rfl (shL_cons rfl (shL_nil)))))
theorem sw_54 (x : droverref17_Reading) : (wrapA (lay' (tg 54)) (avs_54 x)).shut = true := sh_54 x
def avs_46 (x : Int) : List AV := [.v (.int .u64 x)]
theorem sh_46 (x : Int) : AV.shut.shutL (avs_46 x) = true := shL_cons rfl (shL_nil)
theorem sw_46 (x : Int) : (wrapA (lay' (tg 46)) (avs_46 x)).shut = true := shL_head (sh_46 x)
def avs_58 (x : (List Int)) : List AV := [.lst (lay' (tg 46) |> laySize) (x.map fun y => wrapA (lay' (tg 46)) (avs_46 y))]
theorem sh_58 (x : (List Int)) : AV.shut.shutL (avs_58 x) = true := shL_cons (shL_map fun y => sw_46 y) (shL_nil)
theorem sw_58 (x : (List Int)) : (wrapA (lay' (tg 58)) (avs_58 x)).shut = true := shL_head (sh_58 x)
def avs_60 (x : nfa_builder) : List AV := [.lst (lay' (tg 73) |> laySize) (x.nodes.map fun y => wrapA (lay' (tg 73)) (avs_73 y)), .lst (lay' (tg 34) |> laySize) (x.states.map fun y => wrapA (lay' (tg 34)) (avs_34 y)), .lst (lay' (tg 46) |> laySize) (x.behind.map fun y => wrapA (lay' (tg 46)) (avs_46 y))]
theorem sh_60 (x : nfa_builder) : AV.shut.shutL (avs_60 x) = true := shL_cons (shL_map fun y => sw_73 y) (shL_cons (shL_map fun y => sw_34 y) (shL_cons (shL_map fun y => sw_46 y) (shL_nil)))
theorem sw_60 (x : nfa_builder) : (wrapA (lay' (tg 60)) (avs_60 x)).shut = true := sh_60 x
def avs_62 (x : nfa_part) : List AV := [.v (.int .u64 x.first), .v (.int .u64 x.last), .v (.bool x.null)]
theorem sh_62 (x : nfa_part) : AV.shut.shutL (avs_62 x) = true := shL_cons rfl (shL_cons rfl (shL_cons rfl (shL_nil)))
theorem sw_62 (x : nfa_part) : (wrapA (lay' (tg 62)) (avs_62 x)).shut = true := sh_62 x
def avs_77 (x : droverref17_Pool) : List AV := [.lst (lay' (tg 73) |> laySize) (x.L.map fun y => wrapA (lay' (tg 73)) (avs_73 y)), .lst (lay' (tg 3) |> laySize) (x.Sizes.map fun y => wrapA (lay' (tg 3)) (avs_3 y))]
theorem sh_77 (x : droverref17_Pool) : AV.shut.shutL (avs_77 x) = true := shL_cons (shL_map fun y => sw_73 y) (shL_cons (shL_map fun y => sw_3 y) (shL_nil))
theorem sw_77 (x : droverref17_Pool) : (wrapA (lay' (tg 77)) (avs_77 x)).shut = true := sh_77 x
def avs' : (t : Tg) → tgT t → List AV
  | .no, x => [.v (.bool x)]
  | .t3, x => avs_3 x
  | .t4, x => avs_4 x
  | .t25, x => avs_25 x
  | .t34, x => avs_34 x
  | .t22, x => avs_22 x
  | .t24, x => avs_24 x
  | .t73, x => avs_73 x
  | .t36, x => avs_36 x
  | .t38, x => avs_38 x
  | .t5, x => avs_5 x
  | .t66, x => avs_66 x
  | .t49, x => avs_49 x
  | .t54, x => avs_54 x
  | .t46, x => avs_46 x
  | .t58, x => avs_58 x
  | .t60, x => avs_60 x
  | .t62, x => avs_62 x
  | .t77, x => avs_77 x
theorem shut' : ∀ (t : Tg) (x : tgT t), AV.shut.shutL (avs' t x) = true
  | .no, x => rfl
  | .t3, x => sh_3 x
  | .t4, x => sh_4 x
  | .t25, x => sh_25 x
  | .t34, x => sh_34 x
  | .t22, x => sh_22 x
  | .t24, x => sh_24 x
  | .t73, x => sh_73 x
  | .t36, x => sh_36 x
  | .t38, x => sh_38 x
  | .t5, x => sh_5 x
  | .t66, x => sh_66 x
  | .t49, x => sh_49 x
  | .t54, x => sh_54 x
  | .t46, x => sh_46 x
  | .t58, x => sh_58 x
  | .t60, x => sh_60 x
  | .t62, x => sh_62 x
  | .t77, x => sh_77 x
def G : CodG Th where
  lay c := lay' (tg c)
  ty c := ty' (tg c)
  to c x := to' (tg c) x
  fr c y := fr' (tg c) y
  avs c x := avs' (tg c) x
abbrev C : Cod Th := G.cod
theorem av' : ∀ (t : Tg) (x : tgT t), (cellsG (ty' t) (to' t x)).map (SV.av G.cod) = avs' t x := by intro t x; cases t <;> rfl
theorem gok : CodGOk G := ⟨fun c => (by cases h : tg c <;> simp only [G, h] <;> rfl), fun c y => (to_fr' (tg c) y), fun c x => av' (tg c) x, fun c x a h => shL_mem (shut' (tg c) x) a h, fun c x => fr_to' (tg c) x⟩
where
  fr_to' : ∀ (t : Tg) (x : tgT t), fr' t (to' t x) = x := by intro t x; cases t <;> rfl
  to_fr' : ∀ (t : Tg) (y : Tup Th (ty' t)), to' t (fr' t y) = y := by intro t y; cases t <;> rfl
end Go.Proofs.Nfa
