/- A part of a law's proof: AbMOp. -/
import Derived.Test.YtjkcjbkkgkhljaaAbPSound5
set_option linter.unusedVariables false
set_option linter.unusedSimpArgs false
set_option linter.constructorNameAsVariable false
/-
  Operations on memory: what they give and what memory is behind them.
-/
namespace Go.Ab
open Go Go.RowKit
def readA (H : Heap) (l : Option Nat) (addr : AV) : Option AV :=
  match addr with
  | .ptr o off => match H[o]? with
    | some (.cells cs) => partA l cs off
    | _ => none
  | .rp x => match l with
    | some n => match x with
      | .agg cs => if cs.length = n then some (.agg cs) else none
      | _ => none
    | none => if x.isAgg then none else some x
  | _ => none
def setsA (cs : List AV) (off : Nat) : List AV -> List AV
  | [] => cs
  | v :: vs => setsA (cs.set off v) (off + 1) vs
def storeA (H : Heap) (l : Option Nat) (addr val : AV) : Option Heap :=
  match addr, val.flat with
  | .ptr o off, some vs => match H[o]? with
    | some (.cells cs) => if vs.length = laySize l ∧ off + vs.length <= cs.length ∧ vs.all AV.one = true then some (H.set o (.cells (setsA cs off vs))) else none
    | _ => none
  | _, _ => none
def repA (k : Nat) (zs : List AV) : List AV := (List.replicate k zs).flatten
def cellsA (H : Heap) (sz : Nat) (x : AV) : Option (Nat × List AV) :=
  match x with
  | .v (.slice none 0 0) => some (0, [])
  | .z0 => some (0, [])
  | .lst s xs => if s = sz then some (xs.length, xs.flatMap AV.cells) else none
  | .sl s o off len _ => if s = sz then
      if len = 0 then some (0, []) else
      match H[o]? with
      | some (.cells cs) => if off + len * sz <= cs.length then some (len, (cs.drop off).take (len * sz)) else none
      | _ => none
    else none
  | _ => none
def byteCells (s : ByteArray) : List AV := s.data.toList.map fun b => .v (.int .u8 b.toNat)
def LIM : Nat := 140737488355328
def letgo (cap : Option Nat) (q : Nat) (H : Heap) (o : Nat) : Heap :=
  match cap with
  | some c => if c < q then H else H.set o .dead
  | none => H.set o .dead
theorem letgo_len (cap : Option Nat) (q : Nat) (H : Heap) (o : Nat) : (letgo cap q H o).length = H.length := by
  unfold letgo; split
  · split <;> simp
  · simp
def appendA (H : Heap) (sz bytes : Nat) (s : AV) (m : Nat) (news : List AV) : Option (AV × Heap) :=
  match s with
  | .v (.slice none 0 0) => if m = 0 then some (.v (.slice none 0 0), H) else if m * bytes <= LIM ∧ m <= LIM then some (.sl sz H.length 0 m none, H ++ [.cells news]) else none
  | .z0 => if m = 0 then some (.z0, H) else if m * bytes <= LIM ∧ m <= LIM then some (.sl sz H.length 0 m none, H ++ [.cells news]) else none
  | .lst s' xs => if m = 0 ∧ s' = sz then some (.lst s' xs, H) else none
  | .sl s' o off len cap =>
    if s' = sz then
      if m = 0 then some (.sl sz o off len cap, H) else
      match H[o]? with
      | some (.cells cs) =>
        if news.all AV.one = true then
          if off + (len + m) * sz <= cs.length then
            match cap with
            | some c => if len + m <= c then some (.sl sz o off (len + m) cap, H.set o (.cells (setsA cs (off + len * sz) news)))
              else if (len + m) * bytes <= LIM ∧ len + m <= LIM ∧ off + len * sz <= cs.length then some (.sl sz H.length 0 (len + m) none, H ++ [.cells ((cs.drop off).take (len * sz) ++ news)]) else none
            | none => some (.sl sz o off (len + m) cap, H.set o (.cells (setsA cs (off + len * sz) news)))
          else if (len + m) * bytes <= LIM ∧ len + m <= LIM ∧ off + len * sz <= cs.length then some (.sl sz H.length 0 (len + m) none, letgo cap (len + m) H o ++ [.cells ((cs.drop off).take (len * sz) ++ news)]) else none
        else none
      | _ => none
    else none
  | _ => none
def copyA (H : Heap) (sz : Nat) (d : AV) (m : Nat) (news : List AV) : Option (Nat × Heap) :=
  match d with
  | .v (.slice none 0 0) | .z0 => some (0, H)
  | .sl s' o off len _ =>
    if s' = sz then
      if min m len = 0 then some (0, H) else
      match H[o]? with
      | some (.cells cs) =>
        if off + min m len * sz <= cs.length ∧ (news.take (min m len * sz)).all AV.one = true then some (min m len, H.set o (.cells (setsA cs off (news.take (min m len * sz))))) else none
      | _ => none
    else none
  | _ => none
def bytesOfA : List AV -> Option (List UInt8)
  | [] => some []
  | .v (.int .u8 n) :: rest => (bytesOfA rest).map (UInt8.ofNat n.toNat :: ·)
  | _ => none
def tagged (H : Heap) (o : Nat) (e : TypeId) : Bool := H.any fun
  | .tag o' e' => Nat.beq o' o && Nat.beq e' e
  | _ => false
def tagIf (H H' : Heap) (e : TypeId) (x : AV) : Heap :=
  match Nat.ble H'.length H.length with
  | true => H'
  | false => match x with
    | .v (.slice none 0 0) => H' ++ [.tag H.length e]
    | .z0 => H' ++ [.tag H.length e]
    | .sl _ o off _ _ => match Nat.beq off 0 && tagged H o e with
      | true => H' ++ [.tag H.length e]
      | false => H'
    | _ => H'
def findA (ks : List Leaf) (agg : Bool) (k : AV) : List (AV × AV) -> Nat -> Option (Option (Nat × AV))
  | [], _ => some none
  | (a, b) :: es, i => match eqF ks agg k a with
    | some true => some (some (i, b))
    | some false => findA ks agg k es (i + 1)
    | none => none
def mapA (H : Heap) : AV -> Option (List (AV × AV))
  | .v (.map none) => some []
  | .mp o => match H[o]? with
    | some (.map es) => some es
    | _ => none
  | _ => none
inductive YOp where
  | mk
  | look (ks : List Leaf) (agg ok : Bool) (z : AV) (m k : AX)
  | upd (ks : List Leaf) (agg : Bool) (m k v : AX)
  | del (ks : List Leaf) (agg : Bool) (m k : AX)
  | len (m : AX)
def selfEq (ks : List Leaf) (agg : Bool) (k : AV) : Bool := match eqF ks agg k k with
  | some b => b
  | none => false
def YOp.run (ρ : Nat -> AV) (H : Heap) : YOp -> Option (AV × Heap)
  | .mk => some (.mp H.length, H ++ [.map []])
  | .look ks agg ok z m k => match selfEq ks agg (k.ev ρ), mapA H (m.ev ρ) with
    | true, some es => match findA ks agg (k.ev ρ) es 0 with
      | some (some (_, v)) => some (if ok then .tup [v, .v (.bool true)] else v, H)
      | some none => some (if ok then .tup [z, .v (.bool false)] else z, H)
      | none => none
    | _, _ => none
  | .upd ks agg m k v => match selfEq ks agg (k.ev ρ), m.ev ρ with
    | true, .mp o => match H[o]? with
      | some (.map es) => match findA ks agg (k.ev ρ) es 0 with
        | some (some (i, _)) => some (.v (.tuple #[]), H.set o (.map (es.set i (k.ev ρ, v.ev ρ))))
        | some none => some (.v (.tuple #[]), H.set o (.map (es ++ [(k.ev ρ, v.ev ρ)])))
        | none => none
      | _ => none
    | _, _ => none
  | .del ks agg m k => match selfEq ks agg (k.ev ρ), m.ev ρ with
    | true, .mp o => match H[o]? with
      | some (.map es) => match findA ks agg (k.ev ρ) es 0 with
        | some (some (i, _)) => some (.v (.tuple #[]), H.set o (.map (es.eraseIdx i)))
        | some none => some (.v (.tuple #[]), H)
        | none => none
      | _ => none
    | true, .v (.map none) => some (.v (.tuple #[]), H)
    | _, _ => none
  | .len m => match mapA H (m.ev ρ) with
    | some es => some (.v (.int .i64 (es.length : Int)), H)
    | none => none
def leafT (P : Program) (t : TypeId) : Bool := match P.underlying t with
  | some (.int _) | some .bool | some .string => true
  | _ => false
def flatKey (P : Program) (t : TypeId) (n : Nat) : Bool :=
  match P.underlying t with
  | some (.struct fs) => fs.toList.all fun f => f.name != "_" && leafT P f.type && (match layOf P f.type with | some none => true | _ => false) && Nat.blt f.offset n
  | _ => leafT P t
def keyT (P : Program) (t : TypeId) : Option (List Leaf × Bool) :=
  match leavesOf P 1000 t, layOf P t with
  | some ks, some l => if laySize l = ks.length ∧ flatKey P t (laySize l) = true then some (ks, l.isSome) else none
  | _, _ => none
def zeroV (P : Program) (t : TypeId) : Option AV := ((P.info? t).bind (·.zero)).map ofV
def isIntConst : Operand -> Bool
  | .const (.int _ _) => true
  | _ => false
def trYO (P : Program) (o : Oper) : Option YOp :=
  match o.op with
  | .makeMap t r => match P.underlying t with
    | some (.map _ _) => if r.all isIntConst then some .mk else none
    | _ => none
  | .lookup t x k ok => match P.underlying t with
    | some (.map kt et) => match keyT P kt, zeroV P et with
      | some (ks, agg), some z => some (.look ks agg ok z (trX x) (trX k))
      | _, _ => none
    | _ => none
  | .mapUpdate t m k v | .insert t m k v => match P.underlying t with
    | some (.map kt _) => match keyT P kt with
      | some (ks, agg) => some (.upd ks agg (trX m) (trX k) (trX v))
      | none => none
    | _ => none
  | .call { callee := .builtin .delete, args, argTypes } => match args.toList, argTypes.toList with
    | [m, k], [t, _] => match P.underlying t with
      | some (.map kt _) => match keyT P kt with
        | some (ks, agg) => some (.del ks agg (trX m) (trX k))
        | none => none
      | _ => none
    | _, _ => none
  | .call { callee := .builtin .len, args, argTypes } => match args.toList, argTypes.toList with
    | [m], [t] => match P.underlying t with
      | some (.map _ _) => some (.len (trX m))
      | _ => none
    | _, _ => none
  | _ => none
inductive XOp where
  | map (y : YOp)
  | ident (x : AX)
  | capK (x : AX)
  | ovl (x y : AX)
  | eqp (neg : Bool) (x y : AX)
  | clear (sz : Nat) (zs : List AV) (x : AX)
  | allocT (e : TypeId) (zs : List AV)
  | appendT (e : TypeId) (x y : AX)
  | retype (e : TypeId) (n : Nat) (x : AX)
  | sdata (x : AX)
  | ustr (e : TypeId) (x n : AX)
def capF : AV -> Option Nat
  | .v (.slice none 0 0) => some 0
  | .z0 => some 0
  | .sl _ _ _ _ (some c) => some c
  | _ => none
def XOp.run (ρ : Nat -> AV) (H : Heap) : XOp -> Option (AV × Heap)
  | .map y => y.run ρ H
  | .ident x => some (x.ev ρ, H)
  | .ovl x y => match x.ev ρ, y.ev ρ with
    | .sl _ q off l _, .sl _ o off' l' _ => match H[q]?, H[o]? with
      | some (.cells cs), some (.cells ds) => if (q ≠ o ∧ off < cs.length ∧ off' < ds.length) ∧ l ≠ 0 ∧ l' ≠ 0 then some (.v (.bool false), H) else none
      | _, _ => none
    | _, _ => none
  | .capK x => match capF (x.ev ρ) with
    | some n => some (.v (.int .i64 (n : Int)), H)
    | none => none
  | .eqp neg x y => match x.ev ρ, y.ev ρ with
    | .ptr o a, .ptr o' b => if o = o' then some (.v (.bool ((a == b) != neg)), H) else none
    | _, _ => none
  | .clear sz zs x => match x.ev ρ with
    | .v (.slice none 0 0) => some (.v (.tuple #[]), H)
    | .z0 => some (.v (.tuple #[]), H)
    | .sl s o off len _ => if s = sz then
        if len = 0 then some (.v (.tuple #[]), H) else
        match H[o]? with
        | some (.cells cs) => if off + len * sz <= cs.length then some (.v (.tuple #[]), H.set o (.cells (setsA cs off (repA len zs)))) else none
        | _ => none
      else none
    | _ => none
  | .allocT e zs => some (.ptr H.length 0, H ++ [.cells zs] ++ [.tag H.length e])
  | .appendT e x y => match y.ev ρ with
    | .v (.string s) => match appendA H 1 1 (x.ev ρ) s.size (byteCells s) with
      | some (r, H') => some (r, tagIf H H' e (x.ev ρ))
      | none => none
    | _ => none
  | .retype e n x => match x.ev ρ with
    | .ptr o off => match Nat.beq off 0 && tagged H o e with
      | true => match H[o]? with
        | some (.cells cs) => if 0 < cs.length ∧ n <= cs.length then some (.ptr o off, H) else none
        | _ => none
      | false => none
    | _ => none
  | .sdata x => match x.ev ρ with
    | .v (.slice none 0 0) => some (.v (.pointer none), H)
    | .sl _ o off len _ => if len = 0 then none else some (.ptr o off, H)
    | _ => none
  | .ustr e x n => match x.ev ρ, n.ev ρ with
    | .v (.pointer none), .v (.int .i64 k) => if k = 0 then some (.v (.string ⟨#[]⟩), H) else none
    | .ptr o off, .v (.int .i64 k) => match Nat.beq off 0 && tagged H o e with
      | true => match H[o]? with
        | some (.cells cs) => if 0 < k ∧ k.toNat <= cs.length ∧ k < 4611686018427387904 then match bytesOfA (cs.take k.toNat) with
            | some bs => some (.v (.string ⟨bs.toArray⟩), H.set o .dead)
            | none => none
          else none
        | _ => none
      | false => none
    | _, _ => none
inductive MOp where
  | ext (x : XOp)
  | load (l : Option Nat) (x : AX)
  | alloc (zs : List AV)
  | box (x : AX)
  | buildSlice (sz len : Nat) (zs : List AV) (parts : List (Nat × Nat × AX))
  | mkSlice (sz bytes : Nat) (zs : List AV) (len cap : AX)
  | store (l : Option Nat) (x y : AX)
  | append (sz bytes : Nat) (x y : AX)
  | appendStr (x y : AX)
  | appendZ (sz bytes : Nat) (zs : List AV) (x n : AX)
  | copy (sz : Nat) (x y : AX)
  | copyStr (x y : AX)
  | b2s (x : AX)
  | s2b (x : AX)
def unit : AV := .v (.tuple #[])
def MOp.run (ρ : Nat -> AV) (H : Heap) : MOp -> Option (AV × Heap)
  | .ext x => x.run ρ H
  | .load l x => (readA H l (x.ev ρ)).map fun v => (v, H)
  | .alloc zs => some (.ptr H.length 0, H ++ [.cells zs])
  | .box x => match (x.ev ρ).flat with
    | some cs => some (.ptr H.length 0, H ++ [.cells cs])
    | none => none
  | .buildSlice sz len zs parts => match fillA zs (parts.map fun (o, s, x) => (o, s, x.ev ρ)) with
    | some cs => some (.sl sz H.length 0 len (some len), H ++ [.cells cs])
    | none => none
  | .mkSlice sz bytes zs len cap => match len.ev ρ, cap.ev ρ with
    | .v (.int _ n), .v (.int _ c) => if 0 <= n ∧ n <= c ∧ c * (bytes : Int) <= 281474976710656 then some (.sl sz H.length 0 n.toNat (some c.toNat), H ++ [.cells (repA c.toNat zs)]) else none
    | _, _ => none
  | .store l x y => (storeA H l (x.ev ρ) (y.ev ρ)).map fun H' => (unit, H')
  | .append sz bytes x y => match cellsA H sz (y.ev ρ) with
    | some (m, news) => appendA H sz bytes (x.ev ρ) m news
    | none => none
  | .appendStr x y => match y.ev ρ with
    | .v (.string s) => appendA H 1 1 (x.ev ρ) s.size (byteCells s)
    | _ => none
  | .appendZ sz bytes zs x n => match n.ev ρ with
    | .v (.int _ k) => if 0 <= k ∧ k * (bytes : Int) <= 281474976710656 then appendA H sz bytes (x.ev ρ) k.toNat (repA k.toNat zs) else none
    | _ => none
  | .copy sz x y => match cellsA H sz (y.ev ρ) with
    | some (m, news) => (copyA H sz (x.ev ρ) m news).map fun ((k : Nat), H') => (.v (.int .i64 (k : Int)), H')
    | none => none
  | .copyStr x y => match y.ev ρ with
    | .v (.string s) => (copyA H 1 (x.ev ρ) s.size (byteCells s)).map fun ((k : Nat), H') => (.v (.int .i64 (k : Int)), H')
    | _ => none
  | .b2s x => match cellsA H 1 (x.ev ρ) with
    | some (_, cs) => (bytesOfA cs).map fun bs => (.v (.string ⟨bs.toArray⟩), H)
    | none => none
  | .s2b x => match x.ev ρ with
    | .v (.string s) => some (.lst 1 (byteCells s), H ++ [.dead])
    | _ => none
def zeroA (P : Program) (t : TypeId) : Option (List AV) := ((P.info? t).bind (·.zero)).map fun z => z.cells.toList.map .v
def trM0 (P : Program) (o : Oper) : Option MOp :=
  match o.op with
  | .load t x => match layOf P t with
    | some l => some (.load l (trX x))
    | none => none
  | .alloc t => match zeroA P t with
    | some zs => some (.alloc zs)
    | none => none
  | .box _ x => some (.box (trX x))
  | .buildSlice t len parts => match P.underlying t with
    | some (.slice e) => match layOf P e, zeroA P e with
      | some l, some zs => if zs.length = laySize l ∧ len * laySize l <= 16777216 then some (.buildSlice (laySize l) len (repA len zs) (parts.toList.map fun (i, x) => (i * laySize l, laySize l, trX x))) else none
      | _, _ => none
    | _ => none
  | .makeSlice t len cap => match P.underlying t with
    | some (.slice e) => match layOf P e, zeroA P e, P.info? e with
      | some l, some zs, some i => if zs.length = laySize l ∧ 0 < i.bytes then some (.mkSlice (laySize l) i.bytes zs (trX len) (trX cap)) else none
      | _, _, _ => none
    | _ => none
  | .store t x y => match layOf P t with
    | some l => some (.store l (trX x) (trX y))
    | none => none
  | .convert src dst x => match P.underlying src, P.underlying dst with
    | some (.slice e), some .string => match P.underlying e with
      | some (.int .u8) => some (.b2s (trX x))
      | _ => none
    | some .string, some (.slice e) => match P.underlying e with
      | some (.int .u8) => some (.s2b (trX x))
      | _ => none
    | _, _ => none
  | .call { callee := .builtin .append, args, argTypes } => match args.toList, argTypes.toList with
    | [x, y], [t, u] => match P.underlying t, P.underlying u with
      | some (.slice e), some (.slice _) => match layOf P e, zeroA P e, P.info? e with
        | some l, some zs, some i => if zs.length = laySize l ∧ 0 < laySize l ∧ 0 < i.bytes then some (.append (laySize l) i.bytes (trX x) (trX y)) else none
        | _, _, _ => none
      | some (.slice e), some .string => match zeroA P e, P.info? e with
        | some zs, some i => if i.size = 1 ∧ i.bytes = 1 ∧ zs.length = 1 then some (.appendStr (trX x) (trX y)) else none
        | _, _ => none
      | some (.slice e), some (.int _) => match layOf P e, zeroA P e, P.info? e with
        | some l, some zs, some i => if zs.length = laySize l ∧ 0 < laySize l ∧ 0 < i.bytes then some (.appendZ (laySize l) i.bytes zs (trX x) (trX y)) else none
        | _, _, _ => none
      | _, _ => none
    | _, _ => none
  | .call { callee := .builtin .copy, args, argTypes } => match args.toList, argTypes.toList with
    | [x, y], [t, u] => match P.underlying t, P.underlying u with
      | some (.slice e), some (.slice _) => match layOf P e with
        | some l => if 0 < laySize l then some (.copy (laySize l) (trX x) (trX y)) else none
        | none => none
      | some (.slice e), some .string => match P.underlying e, layOf P e with
        | some (.int .u8), some none => some (.copyStr (trX x) (trX y))
        | _, _ => none
      | _, _ => none
    | _, _ => none
  | _ => none
def trXc (P : Program) (b : Builtin) (args : List Operand) (argTypes : List TypeId) : Option XOp :=
  match b with
  | .cap => match args, argTypes with
    | [x], [t] => match P.underlying t with
      | some (.slice _) => some (.capK (trX x))
      | _ => none
    | _, _ => none
  | .clear => match args, argTypes with
    | [x], [t] => match P.underlying t with
      | some (.slice e) => match layOf P e, zeroA P e with
        | some l, some zs => if zs.length = laySize l ∧ 0 < laySize l ∧ zs.all AV.one = true then some (.clear (laySize l) zs (trX x)) else none
        | _, _ => none
      | _ => none
    | _, _ => none
  | .append => match args, argTypes with
    | [x, y], [t, u] => match P.underlying t, P.underlying u with
      | some (.slice e), some .string => match zeroA P e, P.info? e with
        | some zs, some i => if i.size = 1 ∧ i.bytes = 1 ∧ zs.length = 1 then some (.appendT e (trX x) (trX y)) else none
        | _, _ => none
      | _, _ => none
    | _, _ => none
  | .unsafeSliceData => match args with
    | [x] => some (.sdata (trX x))
    | _ => none
  | .unsafeString => match args, argTypes with
    | [x, n], [t, u] => match P.underlying t with
      | some (.pointer e) => if P.cellsOf e = 1 then some (.ustr e (trX x) (trX n)) else none
      | _ => none
    | _, _ => none
  | _ => none
def isOvl (P : Program) (fn : Func) : Bool :=
  fn.body.isNone && fn.origin == "slices.overlaps" && (Extern.findNext fn).isNone && !(fn.name == "runtime.NumGoroutine") &&
  (Extern.allGenericRows.lookup fn.name).isNone && (Extern.allTypedRows.lookup fn.name).isNone && (Extern.allRows.lookup fn.name).isNone &&
  match fn.params.toList, fn.resultTypes.toList with
  | [t, u], [_] => Nat.beq t u && (match P.underlying t with | some (.slice e) => Nat.blt 0 (P.cellsOf e) | _ => false)
  | _, _ => false
def trXO (P : Program) (o : Oper) : Option XOp :=
  match o.op with
  | .alloc t => match P.info? t with
    | some i => if i.str == "strings.Builder" then (zeroA P t).map (.allocT t) else none
    | none => none
  | .convert src dst x => match P.underlying src, P.underlying dst with
    | some (.pointer e), some .unsafePointer => if 0 < P.cellsOf e then some (.retype e (P.cellsOf e) (trX x)) else none
    | some .unsafePointer, some (.pointer e) => if 0 < P.cellsOf e then some (.retype e (P.cellsOf e) (trX x)) else none
    | _, _ => none
  | .binOp op t x y _ => match P.underlying t with
    | some (.pointer e) => if 0 < P.cellsOf e then match op with
        | .eql => some (.eqp false (trX x) (trX y))
        | .neq => some (.eqp true (trX x) (trX y))
        | _ => none
      else none
    | _ => none
  | .call { callee := .builtin b, args, argTypes } => trXc P b args.toList argTypes.toList
  | .call { callee := .value (.func f), args, .. } => match P.funcs[f]? with
    | some fn => if fn.body.isNone && fn.name == "internal/abi.NoEscape" && (Extern.findNext fn).isNone then
        match args.toList with
        | [x] => some (.ident (trX x))
        | _ => none
      else if isOvl P fn then
        match args.toList with
        | [x, y] => some (.ovl (trX x) (trX y))
        | _ => none
      else none
    | none => none
  | _ => none
def trM (P : Program) (o : Oper) : Option MOp :=
  match trYO P o with
  | some y => some (.ext (.map y))
  | none => match trXO P o with
    | some x => some (.ext x)
    | none => trM0 P o
end Go.Ab
