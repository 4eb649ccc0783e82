/- A part of a law's proof: AbPOp. -/
import Derived.Test.YtjkcjbkkgkhljaaAbEq
set_option linter.unusedVariables false
set_option linter.unusedSimpArgs false
set_option linter.constructorNameAsVariable false
/-
  Operations that hang on their operands alone: what they give, and that the machine gives just that.
-/
namespace Go.Ab
open Go Go.RowKit
def AV.flat : AV -> Option (List AV)
  | .agg cs => some cs
  | .any => none
  | .v (.agg _) => none
  | x => some [x]
def AV.one : AV -> Bool
  | .agg _ | .tup _ | .any | .v (.agg _) | .v (.tuple _) => false
  | _ => true
def AV.isAgg : AV -> Bool
  | .agg _ => true
  | _ => false
def fillA (cells : List AV) : List (Nat × Nat × AV) -> Option (List AV)
  | [] => some cells
  | (off, size, v) :: rest =>
    match v.flat with
    | some vs => if vs.length = size ∧ off + size <= cells.length then fillA (cells.take off ++ (vs ++ cells.drop (off + size))) rest else none
    | none => none
def boundF (x : AV) (y : Nat) : Option Nat :=
  match x with
  | .v (.int _ i) => if 0 <= i ∧ i <= (y : Int) then some i.toNat else none
  | _ => none
def boundsF (len cap : Nat) (lo hi mx : Option AV) : Option (Nat × Nat × Nat) :=
  match (match mx with | some v => boundF v cap | none => some cap) with
  | none => none
  | some m =>
    match (match hi, mx with | some v, _ => boundF v m | none, none => some len | none, some _ => none) with
    | none => none
    | some h =>
      match (match lo with | some v => boundF v h | none => some 0) with
      | none => none
      | some l => some (l, h, m)
def newCap (mx : Option AV) (m l : Nat) (cap : Option Nat) : Option Nat :=
  match mx with
  | some _ => some (m - l)
  | none => cap.map (· - l)
def sliceF (sz : Nat) (x : AV) (lo hi mx : Option AV) : Option AV :=
  match x with
  | .v (.slice none 0 0) => (boundsF 0 0 lo hi mx).map fun _ => .v (.slice none 0 0)
  | .z0 => (boundsF 0 0 lo hi mx).map fun _ => .z0
  | .lst s xs => if s = sz then (boundsF xs.length xs.length lo hi mx).map fun (l, h, m) => if mx.isSome ∧ m = l then .z0 else .lst sz ((xs.take h).drop l) else none
  | .sl s o off len cap =>
    if s = sz then (boundsF len (cap.getD len) lo hi mx).map fun (l, h, m) => .sl sz o (off + l * sz) (h - l) (newCap mx m l cap)
    else none
  | _ => none
def lenF (str : Bool) (a : AV) : Option Nat :=
  if str then match a with
    | .v (.string s) => some s.size
    | _ => none
  else match a with
    | .v (.slice none 0 0) => some 0
    | .z0 => some 0
    | .lst _ xs => some xs.length
    | .sl _ _ _ len _ => some len
    | _ => none
def mmF (mx : Bool) : AV -> List AV -> Option AV
  | a, [] => some a
  | .v (.int k x), .v (.int k' y) :: rest =>
    if k = k' then mmF mx (.v (.int k (if mx then (if x < y then y else x) else (if y < x then y else x)))) rest else none
  | _, _ => none
inductive POp where
  | mov (x : AX)
  | pick (c a b : AX)
  | build (zs : List AV) (parts : List (Nat × Nat × AX))
  | bin (op : BinOp) (x y : AX)
  | eqn (neg : Bool) (d : TypeDesc) (x : AX)
  | eqa (neg : Bool) (ks : List Leaf) (agg : Bool) (x y : AX)
  | un (op : UnOp) (x : AX)
  | cint (k : IntKind) (x : AX)
  | cstr (x : AX)
  | fieldAddr (off : Nat) (l : Option Nat) (x : AX)
  | field (off : Nat) (l : Option Nat) (x : AX)
  | idxArr (len : Nat) (l : Option Nat) (x i : AX)
  | idxStr (x i : AX)
  | adrSl (sz : Nat) (x i : AX)
  | adrArr (len : Nat) (l : Option Nat) (x i : AX)
  | slStr (x : AX) (lo hi : Option AX)
  | slSl (sz : Nat) (x : AX) (lo hi mx : Option AX)
  | extract (x : AX) (i : Nat)
  | mkFn (f : FuncId) (cap : List AX)
  | mkIfc (t : TypeId) (x : AX)
  | nilCheck (x : AX)
  | len (str : Bool) (x : AX)
  | lenC (n : Nat)
  | mm (mx : Bool) (x : AX) (xs : List AX)
def partAddr (l : Option Nat) (a : AV) (off : Nat) : Option AV :=
  match a with
  | .ptr o k => some (.ptr o (k + off))
  | .rp x => (partA l x.cells off).bind fun y => if l.isSome || !y.isAgg then some (.rp y) else none
  | _ => none
def POp.run (ρ : Nat -> AV) : POp -> Option AV
  | .mov x => some (x.ev ρ)
  | .pick c a b => match c.ev ρ with | .v (.bool t) => some (if t then a.ev ρ else b.ev ρ) | _ => none
  | .build zs parts => (fillA zs (parts.map fun (o, s, x) => (o, s, x.ev ρ))).map .agg
  | .bin op x y => binF op (x.ev ρ) (y.ev ρ)
  | .eqn neg d x => (nilF d (x.ev ρ)).map fun b => .v (.bool (if neg then !b else b))
  | .eqa neg ks agg x y => (eqF ks agg (x.ev ρ) (y.ev ρ)).map fun b => .v (.bool (if neg then !b else b))
  | .un op x => unF op (x.ev ρ)
  | .cint k x => match x.ev ρ with | .v (.int _ n) => some (.v (.int k (k.wrap n))) | _ => none
  | .cstr x => match x.ev ρ with | .v (.string s) => some (.v (.string s)) | _ => none
  | .fieldAddr off l x => partAddr l (x.ev ρ) off
  | .field off l x => match x.ev ρ with | .agg cs => partA l cs off | _ => none
  | .idxArr m l x i => match x.ev ρ, i.ev ρ with
    | .agg cs, .v (.int _ n) => if 0 <= n ∧ n < (m : Int) then partA l cs (n.toNat * laySize l) else none
    | _, _ => none
  | .idxStr x i => match x.ev ρ, i.ev ρ with
    | .v (.string s), .v (.int _ n) => if 0 <= n then (s.data[n.toNat]?).map fun b => .v (.int .u8 b.toNat) else none
    | _, _ => none
  | .adrSl sz x i => match x.ev ρ, i.ev ρ with
    | .lst s xs, .v (.int _ n) => if s = sz ∧ 0 <= n then (xs[n.toNat]?).map .rp else none
    | .sl s o off m _, .v (.int _ n) => if s = sz ∧ 0 <= n ∧ n < (m : Int) then some (.ptr o (off + n.toNat * sz)) else none
    | _, _ => none
  | .adrArr m l x i => match i.ev ρ with
    | .v (.int _ n) => if 0 <= n ∧ n < (m : Int) then partAddr l (x.ev ρ) (n.toNat * laySize l) else none
    | _ => none
  | .slStr x lo hi => match x.ev ρ with
    | .v (.string s) => (boundsF s.size s.size (lo.map (·.ev ρ)) (hi.map (·.ev ρ)) none).map fun (l, h, _) => .v (.string (s.extract l h))
    | _ => none
  | .slSl sz x lo hi mx => sliceF sz (x.ev ρ) (lo.map (·.ev ρ)) (hi.map (·.ev ρ)) (mx.map (·.ev ρ))
  | .extract x i => match x.ev ρ with | .tup vs => vs[i]? | _ => none
  | .mkFn f cap => some (.fn f (cap.map (·.ev ρ)))
  | .mkIfc t x => some (.ifc t (x.ev ρ))
  | .nilCheck x => match x.ev ρ with
    | .ptr o k => some (.ptr o k)
    | .rp y => some (.rp y)
    | .fn f cs => some (.fn f cs)
    | _ => none
  | .len str x => (lenF str (x.ev ρ)).map fun (n : Nat) => .v (.int .i64 (n : Int))
  | .lenC n => some (.v (.int .i64 n))
  | .mm mx x xs => mmF mx (x.ev ρ) (xs.map (·.ev ρ))
def placesOf (P : Program) (t : TypeId) (parts : List (Nat × Operand)) : Option (List (Nat × Nat × AX)) :=
  match P.underlying t with
  | some (.struct fs) => parts.mapM fun (i, x) => match fs[i]? with
    | some f => match layOf P f.type with
      | some l => some (f.offset, laySize l, trX x)
      | none => none
    | none => none
  | some (.array _ e) => match layOf P e with
    | some l => some (parts.map fun (i, x) => (i * laySize l, laySize l, trX x))
    | none => none
  | _ => none
def fieldsLaid (P : Program) (t : TypeId) : Bool :=
  match P.underlying t with
  | some (.struct fs) => fs.toList.all fun f => (layOf P f.type).isSome
  | _ => true
def nilOf : TypeDesc -> Operand -> Bool
  | .pointer _, .const (.pointer none) => true
  | .slice _, .const (.slice none _ _) => true
  | .map _ _, .const (.map none) => true
  | .func _ _ _, .const .nilFunc => true
  | .interface _, .const .nilIface => true
  | _, _ => false
def trBin (P : Program) (op : BinOp) (t : TypeId) (x y : Operand) : Option POp :=
  match P.underlying t with
  | some (.int _) => some (.bin op (trX x) (trX y))
  | some .string => some (.bin op (trX x) (trX y))
  | some (.float _) => some (.bin op (trX x) (trX y))
  | some d =>
    match op with
    | .eql | .neq =>
      match d with
      | .pointer _ | .slice _ | .map _ _ | .func _ _ _ | .interface _ =>
        if nilOf d y then some (.eqn (op == .neq) d (trX x)) else none
      | .bool | .struct _ | .array _ _ =>
        if P.eqGuardType P.depth t then none else
        match leavesOf P 1000 t, layOf P t with
        | some ks, some l => if laySize l = ks.length then some (.eqa (op == .neq) ks l.isSome (trX x) (trX y)) else none
        | _, _ => none
      | _ => none
    | _ => none
  | none => none
def trP (P : Program) (o : Oper) : Option POp :=
  match o.op with
  | .move x | .assign x => some (.mov (trX x))
  | .pick c a b => some (.pick (trX c) (trX a) (trX b))
  | .build t parts =>
    match (P.info? t).bind (·.zero), placesOf P t parts.toList with
    | some z, some ps => if fieldsLaid P t then some (.build (z.cells.toList.map .v) ps) else none
    | _, _ => none
  | .binOp op t x y _ => trBin P op t x y
  | .unOp op _ x => some (.un op (trX x))
  | .convert src dst x =>
    match P.underlying src, P.underlying dst with
    | some (.int _), some (.int k) => some (.cint k (trX x))
    | some .string, some .string => some (.cstr (trX x))
    | _, _ => none
  | .fieldAddr s x f =>
    match P.underlying s with
    | some (.struct fs) => match fs[f]? with
      | some fd => match layOf P fd.type with
        | some l => if laySize l = 0 then none else some (.fieldAddr fd.offset l (trX x))
        | none => none
      | none => none
    | _ => none
  | .field t x f =>
    match P.underlying t with
    | some (.struct fs) => match fs[f]? with
      | some fd => match layOf P fd.type with
        | some l => some (.field fd.offset l (trX x))
        | none => none
      | none => none
    | _ => none
  | .index t x i =>
    match P.underlying t with
    | some (.array n e) => match layOf P e with
      | some l => some (.idxArr n l (trX x) (trX i))
      | none => none
    | some .string => some (.idxStr (trX x) (trX i))
    | _ => none
  | .indexAddr t x i =>
    match P.underlying t with
    | some (.array n e) => match layOf P e with
      | some l => some (.adrArr n l (trX x) (trX i))
      | none => none
    | some (.slice e) => match layOf P e with
      | some l => some (.adrSl (laySize l) (trX x) (trX i))
      | none => none
    | _ => none
  | .slice t x lo hi mx =>
    match P.underlying t with
    | some .string => if mx.isSome then none else some (.slStr (trX x) (lo.map trX) (hi.map trX))
    | some (.slice e) => match layOf P e with
      | some l => some (.slSl (laySize l) (trX x) (lo.map trX) (hi.map trX) (mx.map trX))
      | none => none
    | _ => none
  | .extract x i => some (.extract (trX x) i)
  | .makeFunc (.func f) first cap => if first.isEmpty then some (.mkFn f (cap.toList.map trX)) else none
  | .makeInterface t x =>
    match P.underlying t with
    | some (.interface _) => none
    | some _ => some (.mkIfc t (trX x))
    | none => none
  | .nilCheck x => some (.nilCheck (trX x))
  | .call { callee := .builtin .len, args, argTypes } =>
    match args.toList, argTypes[0]? with
    | [x], some t => match P.underlying t with
      | some .string => some (.len true (trX x))
      | some (.slice _) => some (.len false (trX x))
      | some (.array n _) => some (.lenC n)
      | some (.pointer a) => match P.underlying a with
        | some (.array n _) => some (.lenC n)
        | _ => none
      | _ => none
    | _, _ => none
  | .call { callee := .builtin .max, args, .. } => match args.toList with
    | x :: xs => some (.mm true (trX x) (xs.map trX))
    | [] => none
  | .call { callee := .builtin .min, args, .. } => match args.toList with
    | x :: xs => some (.mm false (trX x) (xs.map trX))
    | [] => none
  | _ => none
end Go.Ab
