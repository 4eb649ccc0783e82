/- A part of a law's proof: ActTy. -/
import Derived.Test.YtjkcjbkkgkhljaaSvCod
set_option linter.unusedSimpArgs false
set_option linter.constructorNameAsVariable false
namespace Go.Proofs.Act
open Go Go.Ab
set_option linter.unusedVariables false
structure Action where
  Kind : Int
  Field : Int
  Value : Int
  deriving DecidableEq, Inhabited
inductive Tg where
  | no
  | t3
  | t27
  | t29
  | t5
  | t22
def tg (c : Nat) : Tg :=
  bif Nat.beq c 3 then .t3 else
  bif Nat.beq c 27 then .t27 else
  bif Nat.beq c 29 then .t29 else
  bif Nat.beq c 5 then .t5 else
  bif Nat.beq c 22 then .t22 else
  .no
@[reducible] def tgT : Tg -> Type
  | .no => Bool
  | .t3 => Int
  | .t27 => Int
  | .t29 => Action
  | .t5 => Int
  | .t22 => (List Action)
@[reducible] def Th (c : Nat) : Type := tgT (tg c)
def lay' : Tg -> Option Nat
  | .no => none
  | .t3 => none
  | .t27 => none
  | .t29 => some 3
  | .t5 => none
  | .t22 => none
@[reducible] def ty' : Tg -> List Ty
  | .no => [.b]
  | .t3 => [.i .i64]
  | .t27 => [.i .u64]
  | .t29 => [.i .i64, .i .i64, .i .u64]
  | .t5 => [.i .u8]
  | .t22 => [.l 29]
def to' : (t : Tg) -> tgT t -> Tup Th (ty' t)
  | .no, x => (x, ())
  | .t3, x => (x, ())
  | .t27, x => (x, ())
  | .t29, x => (x.Kind, x.Field, x.Value, ())
  | .t5, x => (x, ())
  | .t22, x => (x, ())
def fr' : (t : Tg) -> Tup Th (ty' t) -> tgT t
  | .no, y => y.1
  | .t3, y => y.1
  | .t27, y => y.1
  | .t29, y => ⟨y.1, y.2.1, y.2.2.1⟩
  | .t5, y => y.1
  | .t22, y => y.1
def avs_3 (x : Int) : List AV := [.v (.int .i64 x)]
theorem sh_3 (x : Int) : AV.shut.shutL (avs_3 x) = true := shL_cons rfl (shL_nil)
def avs_27 (x : Int) : List AV := [.v (.int .u64 x)]
theorem sh_27 (x : Int) : AV.shut.shutL (avs_27 x) = true := shL_cons rfl (shL_nil)
def avs_29 (x : Action) : List AV := [.v (.int .i64 x.Kind), .v (.int .i64 x.Field), .v (.int .u64 x.Value)]
theorem sh_29 (x : Action) : AV.shut.shutL (avs_29 x) = true := shL_cons rfl (shL_cons rfl (shL_cons rfl (shL_nil)))
theorem sw_29 (x : Action) : (wrapA (lay' (tg 29)) (avs_29 x)).shut = true := sh_29 x
def avs_5 (x : Int) : List AV := [.v (.int .u8 x)]
theorem sh_5 (x : Int) : AV.shut.shutL (avs_5 x) = true := shL_cons rfl (shL_nil)
def avs_22 (x : (List Action)) : List AV := [.lst (lay' (tg 29) |> laySize) (x.map fun y => wrapA (lay' (tg 29)) (avs_29 y))]
theorem sh_22 (x : (List Action)) : AV.shut.shutL (avs_22 x) = true := shL_cons (shL_map fun y => sw_29 y) (shL_nil)
def avs' : (t : Tg) -> tgT t -> List AV
  | .no, x => [.v (.bool x)]
  | .t3, x => avs_3 x
  | .t27, x => avs_27 x
  | .t29, x => avs_29 x
  | .t5, x => avs_5 x
  | .t22, x => avs_22 x
theorem shut' : ∀ (t : Tg) (x : tgT t), AV.shut.shutL (avs' t x) = true
  | .no, x => rfl
  | .t3, x => sh_3 x
  | .t27, x => sh_27 x
  | .t29, x => sh_29 x
  | .t5, x => sh_5 x
  | .t22, x => sh_22 x
def G : CodG Th where
  lay c := lay' (tg c)
  ty c := ty' (tg c)
  to c x := to' (tg c) x
  fr c y := fr' (tg c) y
  avs c x := avs' (tg c) x
abbrev C : Cod Th := G.cod
theorem av' : ∀ (t : Tg) (x : tgT t), (cellsG (ty' t) (to' t x)).map (SV.av G.cod) = avs' t x := by intro t x; cases t <;> rfl
theorem gok : CodGOk G := ⟨fun c => (by cases h : tg c <;> simp only [G, h] <;> rfl), fun c y => (to_fr' (tg c) y), fun c x => av' (tg c) x, fun c x a h => shL_mem (shut' (tg c) x) a h, fun c x => fr_to' (tg c) x⟩
where
  fr_to' : ∀ (t : Tg) (x : tgT t), fr' t (to' t x) = x := by intro t x; cases t <;> rfl
  to_fr' : ∀ (t : Tg) (y : Tup Th (ty' t)), to' t (fr' t y) = y := by intro t y; cases t <;> rfl
end Go.Proofs.Act
