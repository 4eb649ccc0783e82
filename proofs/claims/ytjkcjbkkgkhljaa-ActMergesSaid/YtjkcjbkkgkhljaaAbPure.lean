/- A part of a law's proof: AbPure. -/
import Derived.Laws.Append
import Derived.Laws.Cells
import Derived.Laws.StructEq
import Derived.Test.YtjkcjbkkgkhljaaAbFrz
set_option linter.unusedVariables false
set_option linter.unusedSimpArgs false
set_option linter.constructorNameAsVariable false
/-
  The operations that hang on their operands alone.
-/
namespace Go.Ab
open Go Go.RowKit
inductive AX where
  | s (t : Nat)
  | c (x : AV)
  deriving Inhabited
def AX.ev (ρ : Nat -> AV) : AX -> AV
  | .s t => ρ t
  | .c x => x
@[simp] theorem AX.ev_s (ρ : Nat -> AV) (t : Nat) : (AX.s t).ev ρ = ρ t := rfl
@[simp] theorem AX.ev_c (ρ : Nat -> AV) (x : AV) : (AX.c x).ev ρ = x := rfl
def ofV : Value -> AV
  | .agg cs => .agg (cs.toList.map .v)
  | .tuple vs => .tup (vs.toList.map .v)
  | .func (.func f) first cap => if first.isEmpty && cap.isEmpty then .fn f [] else .v (.func (.func f) first cap)
  | x => .v x
theorem rep_ofV {β : Lies} {n : Nat} {R : Nat -> Nat -> Value -> Prop} (x : Value) : Rep β n R (ofV x) x := by
  unfold ofV
  split
  · rename_i cs
    refine .agg (by simp) fun i a c h h' => ?_
    simp only [List.getElem?_map, Array.getElem?_toList, h', Option.map_some, Option.some.injEq] at h
    subst h; exact .v _
  · rename_i cs
    refine .tup (by simp) fun i a c h h' => ?_
    simp only [List.getElem?_map, Array.getElem?_toList, h', Option.map_some, Option.some.injEq] at h
    subst h; exact .v _
  · rename_i f first cap
    split
    · rename_i h
      simp at h
      obtain ⟨rfl, rfl⟩ := h
      exact .fn (by simp) fun i a c h _ => by simp at h
    · exact .v _
  · exact .v _
def trX : Operand -> AX
  | .tmp t => .s t
  | .const x => .c (ofV x)
  | .global g => .c (.v (.pointer (some ⟨g, 0, none⟩)))
  | .func f => .c (.fn f [])
def layOf (P : Program) (t : TypeId) : Option (Option Nat) :=
  match P.underlying t, P.info? t with
  | some (.struct _), some i | some (.array _ _), some i => some (some i.size)
  | some _, some i => if i.size = 1 then some none else none
  | _, _ => none
def laySize : Option Nat -> Nat
  | some n => n
  | none => 1
def partA (l : Option Nat) (cs : List AV) (off : Nat) : Option AV :=
  match l with
  | some n => if off + n <= cs.length then some (.agg ((cs.drop off).take n)) else none
  | none => cs[off]?
section
variable {P : Program} {β : Lies} {n : Nat} {R : Nat -> Nat -> Value -> Prop}
theorem layOf_size {t : TypeId} {l : Option Nat} (h : layOf P t = some l) (w : World) : (sizeOf t).run P w = .ok (laySize l) w := by
  unfold layOf at h
  split at h
  · rename_i i _ hi; cases h; simp [sizeOf, typeInfo, hi, laySize]
  · rename_i i _ hi; cases h; simp [sizeOf, typeInfo, hi, laySize]
  · rename_i i _ hi; split at h
    · rename_i h1; cases h; simp [sizeOf, typeInfo, hi, laySize, h1]
    · cases h
  · cases h
theorem run_und {t : TypeId} {d : TypeDesc} (h : P.underlying t = some d) (w : World) : (underlying t).run P w = .ok d w := by
  simp [underlying, h]
theorem layOf_agg {t : TypeId} {l : Option Nat} (h : layOf P t = some l) (w : World) : (isAgg t).run P w = .ok l.isSome w := by
  unfold layOf at h
  split at h
  · rename_i i hu hi; cases h; simp [isAgg, run_und hu]
  · rename_i i hu hi; cases h; simp [isAgg, run_und hu]
  · rename_i d i hu hi
    split at h
    · cases h
      rename_i h1 h2 _
      simp [isAgg, run_und hu]
    · cases h
  · cases h
theorem part_sound {t : TypeId} {l : Option Nat} (hl : layOf P t = some l) {cs : List AV} {vs : Array Value} (hlen : cs.length = vs.size)
    (h : ∀ (i : Nat) (a : AV) (c : Value), cs[i]? = some a -> vs[i]? = some c -> Rep β n R a c) {off : Nat} {a : AV} (hp : partA l cs off = some a) (w : World) :
    ∃ c, (part t vs off).run P w = .ok c w ∧ Rep β n R a c := by
  have hA := layOf_agg hl w
  have hS := layOf_size hl w
  cases l with
  | some m =>
    simp only [partA] at hp
    split at hp
    · rename_i hle
      cases hp
      refine ⟨.agg (vs.extract off (off + m)), by simp [part, hA, hS, laySize], .agg (by simp; omega) fun i a c hi hc => ?_⟩
      have hi' := getElem?_lt hi
      simp at hi'
      rw [List.getElem?_take_of_lt (by omega), List.getElem?_drop] at hi
      have hc' : vs[off + i]? = some c := by
        simp only [Array.getElem?_extract] at hc
        split at hc
        · exact hc
        · cases hc
      exact h _ _ _ hi hc'
    · cases hp
  | none =>
    simp only [partA] at hp
    have hi := getElem?_lt hp
    have hc : vs[off]? = some vs[off] := by simp
    exact ⟨vs[off], by simp [part, hA, hc], h _ _ _ hp hc⟩
def ofInt (k : IntKind) (n : Int) : AV := .v (.int k n)
def bitsF (op : BinOp) (k : IntKind) (x y : Int) : Option Int :=
  match op with
  | .and => some (k.wrap (BitVec.ofInt k.bits x &&& BitVec.ofInt k.bits y).toNat)
  | .or => some (k.wrap (BitVec.ofInt k.bits x ||| BitVec.ofInt k.bits y).toNat)
  | .xor => some (k.wrap (BitVec.ofInt k.bits x ^^^ BitVec.ofInt k.bits y).toNat)
  | .andNot => some (k.wrap (BitVec.ofInt k.bits x &&& ~~~ (BitVec.ofInt k.bits y)).toNat)
  | _ => none
def intF (op : BinOp) (k : IntKind) (x y : Int) : Option AV :=
  match op with
  | .add => some (.v (.int k (k.wrap (x + y))))
  | .sub => some (.v (.int k (k.wrap (x - y))))
  | .mul => some (.v (.int k (k.wrap (x * y))))
  | .quo => if y = 0 then none else some (.v (.int k (k.wrap (x.tdiv y))))
  | .rem => if y = 0 then none else some (.v (.int k (x.tmod y)))
  | .and | .or | .xor | .andNot => (bitsF op k x y).map fun r => .v (.int k r)
  | .eql => some (.v (.bool (x == y)))
  | .neq => some (.v (.bool (x != y)))
  | .lss => some (.v (.bool (decide (x < y))))
  | .leq => some (.v (.bool (decide (x <= y))))
  | .gtr => some (.v (.bool (decide (y < x))))
  | .geq => some (.v (.bool (decide (y <= x))))
  | _ => none
def shiftF (op : BinOp) (k : IntKind) (x y : Int) : Option AV :=
  if y < 0 then none else
  match op with
  | .shl => some (.v (.int k (k.wrap (x * 2 ^ (min y.toNat k.bits)))))
  | .shr => some (.v (.int k (x.fdiv (2 ^ (min y.toNat k.bits)))))
  | _ => none
def strF (op : BinOp) (x y : ByteArray) : Option AV :=
  match op with
  | .add => if x.size + y.size <= 9223372036854775807 then some (.v (.string (x ++ y))) else none
  | .eql => some (.v (.bool (x.toList == y.toList)))
  | .neq => some (.v (.bool (!(x.toList == y.toList))))
  | .lss => some (.v (.bool (Op.bytesLess x.toList y.toList)))
  | .leq => some (.v (.bool (Op.bytesLess x.toList y.toList || x.toList == y.toList)))
  | .gtr => some (.v (.bool (!(Op.bytesLess x.toList y.toList || x.toList == y.toList))))
  | .geq => some (.v (.bool (!(Op.bytesLess x.toList y.toList))))
  | _ => none
def floatF (op : BinOp) (k : FloatKind) (x y : Nat) : Option AV :=
  match op with
  | .eql => some (.v (.bool (k.format.order x y == some .eq)))
  | .neq => some (.v (.bool (k.format.order x y != some .eq)))
  | .lss => some (.v (.bool (k.format.order x y == some .lt)))
  | .leq => some (.v (.bool (k.format.order x y == some .lt || k.format.order x y == some .eq)))
  | .gtr => some (.v (.bool (k.format.order x y == some .gt)))
  | .geq => some (.v (.bool (k.format.order x y == some .gt || k.format.order x y == some .eq)))
  | _ => none
def isShift : BinOp -> Bool
  | .shl | .shr => true
  | _ => false
def binF (op : BinOp) (a b : AV) : Option AV :=
  match a, b with
  | .v (.int k x), .v (.int k' y) => if isShift op then shiftF op k x y else if k = k' then intF op k x y else none
  | .v (.string x), .v (.string y) => strF op x y
  | .v (.float k x), .v (.float k' y) => if k = k' then floatF op k x y else none
  | _, _ => none
def nilF (d : TypeDesc) (a : AV) : Option Bool :=
  match d, a with
  | .pointer _, .ptr _ _ | .pointer _, .rp _ => some false
  | .pointer _, .v (.pointer p) => some p.isNone
  | .slice _, .sl _ _ _ _ _ => some false
  | .slice _, .v (.slice p _ _) => some p.isNone
  | .map _ _, .mp _ => some false
  | .map _ _, .v (.map p) => some p.isNone
  | .func _ _ _, .fn _ _ => some false
  | .func _ _ _, .v .nilFunc => some true
  | .interface _, .ifc _ _ => some false
  | .interface _, .v .nilIface => some true
  | _, _ => none
inductive Leaf where
  | int (k : IntKind)
  | bool
  | str
  deriving DecidableEq
def leafEq : Leaf -> AV -> AV -> Option Bool
  | .int k, .v (.int k₁ x), .v (.int k₂ y) => if k = k₁ ∧ k = k₂ then some (x == y) else none
  | .bool, .v (.bool x), .v (.bool y) => some (x == y)
  | .str, .v (.string x), .v (.string y) => some (x == y)
  | _, _, _ => none
def leavesEq : List Leaf -> List AV -> List AV -> Option Bool
  | [], [], [] => some true
  | k :: ks, x :: xs, y :: ys => match leafEq k x y, leavesEq ks xs ys with
    | some a, some b => some (a && b)
    | _, _ => none
  | _, _, _ => none
def eqF (ks : List Leaf) (agg : Bool) (a b : AV) : Option Bool :=
  if agg then match a, b with
    | .agg xs, .agg ys => leavesEq ks xs ys
    | _, _ => none
  else match ks with
    | [k] => leafEq k a b
    | _ => none
def unF (op : UnOp) (a : AV) : Option AV :=
  match op, a with
  | .neg, .v (.int k n) => some (.v (.int k (k.wrap (0 - n))))
  | .xor, .v (.int k n) => (bitsF .xor k (if k.signed then -1 else k.max) n).map fun r => .v (.int k r)
  | .not, .v (.bool b) => some (.v (.bool !b))
  | _, _ => none
end
end Go.Ab
