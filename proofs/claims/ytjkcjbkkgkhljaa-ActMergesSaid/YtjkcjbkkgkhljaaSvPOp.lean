/- A part of a law's proof: SvPOp. -/
import Derived.Test.YtjkcjbkkgkhljaaSvBase
set_option linter.constructorNameAsVariable false
/-
  Operations that hang on their operands alone, on typed values.
-/
namespace Go.Ab
open Go Go.RowKit
set_option linter.unusedVariables false
set_option linter.unusedSimpArgs false
variable {Θ : Nat -> Type}
def sofV : Value -> SV Θ
  | .int k n => .i k n
  | .bool b => .kb b
  | .string s => .s s.data.toList
  | x => .v x
def sofA : AV -> SV Θ
  | .v x => sofV x
  | .agg cs => .agg (sofL cs)
  | .tup cs => .tup (sofL cs)
  | .z0 => .z0
  | .fn f cs => .fn f (sofL cs)
  | _ => .any
where
  sofL : List AV -> List (SV Θ)
  | [] => []
  | x :: xs => sofA x :: sofL xs
def sev (ρ : SEnv Θ) : AX -> SV Θ
  | .s t => ρ.get t
  | .c x => sofA x
def sevL (ρ : SEnv Θ) : List AX -> List (SV Θ)
  | [] => []
  | x :: xs => sev ρ x :: sevL ρ xs
def SV.flat : SV Θ -> Option (List (SV Θ))
  | .agg cs => some cs
  | .any => none
  | .v (.agg _) => none
  | x => some [x]
def sPart (l : Option Nat) (cs : List (SV Θ)) (off : Nat) : Option (SV Θ) :=
  match l with
  | some n => match Nat.ble (off + n) cs.length with
    | true => some (.agg ((cs.drop off).take n))
    | false => none
  | none => cs[off]?
def sFill (cells : List (SV Θ)) : List (Nat × Nat × SV Θ) -> Option (List (SV Θ))
  | [] => some cells
  | (off, size, v) :: rest =>
    match v.flat with
    | some vs => match Nat.beq vs.length size with
      | true => match Nat.ble (off + size) cells.length with
        | true => sFill (cells.take off ++ (vs ++ cells.drop (off + size))) rest
        | false => none
      | false => none
    | none => none
def sParts (ρ : SEnv Θ) : List (Nat × Nat × AX) -> List (Nat × Nat × SV Θ)
  | [] => []
  | (o, s, x) :: r => (o, s, sev ρ x) :: sParts ρ r
def Cm.ofO {α : Type} : Option α -> Cm α
  | some x => .ret x
  | none => .no
def sInt (op : BinOp) (k : IntKind) (x y : Int) : Cm (SV Θ) :=
  match op with
  | .add => .ret (.i k (k.wrap (x + y)))
  | .sub => .ret (.i k (k.wrap (x - y)))
  | .mul => .ret (.i k (k.wrap (x * y)))
  | .quo => .chk (y ≠ 0) (.ret (.i k (k.wrap (x.tdiv y))))
  | .rem => .chk (y ≠ 0) (.ret (.i k (x.tmod y)))
  | .and => .ret (.i k (k.wrap (BitVec.ofInt k.bits x &&& BitVec.ofInt k.bits y).toNat))
  | .or => .ret (.i k (k.wrap (BitVec.ofInt k.bits x ||| BitVec.ofInt k.bits y).toNat))
  | .xor => .ret (.i k (k.wrap (BitVec.ofInt k.bits x ^^^ BitVec.ofInt k.bits y).toNat))
  | .andNot => .ret (.i k (k.wrap (BitVec.ofInt k.bits x &&& ~~~ (BitVec.ofInt k.bits y)).toNat))
  | .eql => .ret (.b (decide (x = y)))
  | .neq => .ret (.b (!decide (x = y)))
  | .lss => .ret (.b (decide (x < y)))
  | .leq => .ret (.b (decide (x <= y)))
  | .gtr => .ret (.b (decide (y < x)))
  | .geq => .ret (.b (decide (y <= x)))
  | _ => .no
def sShift (op : BinOp) (k : IntKind) (x y : Int) : Cm (SV Θ) :=
  match op with
  | .shl => .chk (0 <= y) (.ret (.i k (k.wrap (x * 2 ^ (min y.toNat k.bits)))))
  | .shr => .chk (0 <= y) (.ret (.i k (x.fdiv (2 ^ (min y.toNat k.bits)))))
  | _ => .no
def sStr (op : BinOp) (x y : List UInt8) : Cm (SV Θ) :=
  match op with
  | .add => .chk (x.length + y.length <= 9223372036854775807) (.ret (.s (x ++ y)))
  | .eql => .ret (.b (decide (x = y)))
  | .neq => .ret (.b (!decide (x = y)))
  | .lss => .ret (.b (Op.bytesLess x y))
  | .leq => .ret (.b (Op.bytesLess x y || decide (x = y)))
  | .gtr => .ret (.b (!(Op.bytesLess x y || decide (x = y))))
  | .geq => .ret (.b (!(Op.bytesLess x y)))
  | _ => .no
def sBin (op : BinOp) (a b : SV Θ) : Cm (SV Θ) :=
  match a, b with
  | .i k x, .i k' y => match isShift op with
    | true => sShift op k x y
    | false => if k = k' then sInt op k x y else .no
  | .s x, .s y => sStr op x y
  | _, _ => .no
def sNil (d : TypeDesc) (a : SV Θ) : Option Bool :=
  match d, a with
  | .pointer _, .ptr _ _ => some false
  | .pointer _, .eptr _ _ _ _ => some false
  | .pointer _, .rp _ => some false
  | .pointer _, .v (.pointer none) => some true
  | .pointer _, .v (.pointer (some _)) => some false
  | .slice _, .v (.slice none _ _) => some true
  | .map _ _, .mp _ => some false
  | .map _ _, .v (.map none) => some true
  | .func _ _ _, .fn _ _ => some false
  | .func _ _ _, .v .nilFunc => some true
  | .interface _, .ifc _ _ => some false
  | .interface _, .v .nilIface => some true
  | _, _ => none
def SV.bool? : SV Θ -> Option Bool
  | .b x => some x
  | .kb x => some x
  | _ => none
def sLeaf (k : Leaf) (a b : SV Θ) : Option Bool :=
  match k with
  | .int k => match a, b with
    | .i k₁ x, .i k₂ y => if k = k₁ ∧ k = k₂ then some (decide (x = y)) else none
    | _, _ => none
  | .str => match a, b with
    | .s x, .s y => some (decide (x = y))
    | _, _ => none
  | .bool => match a.bool?, b.bool? with
    | some x, some y => some (x == y)
    | _, _ => none
def sLeaves : List Leaf -> List (SV Θ) -> List (SV Θ) -> Option Bool
  | [], [], [] => some true
  | k :: ks, x :: xs, y :: ys => match sLeaf k x y with
    | some a => match ks with
      | [] => match xs, ys with
        | [], [] => some a
        | _, _ => none
      | _ :: _ => match sLeaves ks xs ys with
        | some b => some (a && b)
        | none => none
    | none => none
  | _, _, _ => none
def sEq (ks : List Leaf) (agg : Bool) (a b : SV Θ) : Option Bool :=
  match agg with
  | true => match a, b with
    | .agg xs, .agg ys => sLeaves ks xs ys
    | _, _ => none
  | false => match ks with
    | [k] => sLeaf k a b
    | _ => none
def sUn (op : UnOp) (a : SV Θ) : Option (SV Θ) :=
  match op, a with
  | .neg, .i k n => some (.i k (k.wrap (0 - n)))
  | .xor, .i k n => some (.i k (k.wrap (BitVec.ofInt k.bits (if k.signed then -1 else k.max) ^^^ BitVec.ofInt k.bits n).toNat))
  | .not, .b b => some (.b !b)
  | .not, .kb b => some (.kb !b)
  | _, _ => none
def sPartAddr (l : Option Nat) (a : SV Θ) (off : Nat) : Option (SV Θ) :=
  match a with
  | .ptr o k => some (.ptr o (k + off))
  | .eptr c o j k => some (.eptr c o j (k + off))
  | .rp (.agg cs) => match sPart l cs off with
    | some y => match l, y with
      | some _, y => some (.rp y)
      | none, .agg _ => none
      | none, .any => none
      | none, .v (.agg _) => none
      | none, y => some (.rp y)
    | none => none
  | _ => none
def sBnd (x : Option (SV Θ)) (d y : Nat) : Cm Nat :=
  match x with
  | none => .ret d
  | some (.i _ n) => .chk (0 <= n ∧ n <= (y : Int)) (.ret n.toNat)
  | _ => .no
def sevO (ρ : SEnv Θ) : Option AX -> Option (SV Θ)
  | none => none
  | some x => some (sev ρ x)
def zeroAX : Option AX -> Bool
  | some (.c (.v (.int _ (.ofNat n)))) => Nat.beq n 0
  | _ => false
def sMm (mx : Bool) : SV Θ -> List (SV Θ) -> Option (SV Θ)
  | a, [] => some a
  | .i k x, .i k' y :: rest =>
    if k = k' then match mx with
      | true => sMm true (.i k (max x y)) rest
      | false => sMm false (.i k (min x y)) rest
    else none
  | _, _ => none
def sNth {α : Type} : List α -> Nat -> Option α
  | [], _ => none
  | x :: xs, n => match n with
    | 0 => some x
    | n + 1 => sNth xs n
def sLitIdx : AX -> Option Nat
  | .c (.v (.int _ (.ofNat n))) => some n
  | _ => none
def sCapD (cap : Option Nat) (len : Nat) : Nat :=
  match cap with
  | some k => k
  | none => len
def sNewCap (mx : Option AX) (m l : Nat) (cap : Option Nat) : Option Nat :=
  match mx with
  | some _ => some (m - l)
  | none => match cap with
    | some k => some (k - l)
    | none => none
def sHi (ρ : SEnv Θ) (hi mx : Option AX) (len m : Nat) : Cm Nat :=
  match hi with
  | none => match mx with
    | none => .ret len
    | some _ => .no
  | some x => sBnd (some (sev ρ x)) 0 m
def sP (C : Cod Θ) (ρ : SEnv Θ) : POp -> Cm (SV Θ)
  | .mov x => .ret (sev ρ x)
  | .pick c a b => match sev ρ c with
    | .kb true => .ret (sev ρ a)
    | .kb false => .ret (sev ρ b)
    | _ => .no
  | .build zs parts => match sFill (sofA.sofL zs) (sParts ρ parts) with
    | some cs => .ret (.agg cs)
    | none => .no
  | .bin op x y => sBin op (sev ρ x) (sev ρ y)
  | .eqn neg d x => match sNil d (sev ρ x) with
    | some b => match neg with
      | true => match b with
        | true => .ret (.kb false)
        | false => .ret (.kb true)
      | false => .ret (.kb b)
    | none => .no
  | .eqa neg ks agg x y => match sEq ks agg (sev ρ x) (sev ρ y) with
    | some b => match neg with
      | true => .ret (.b (!b))
      | false => .ret (.b b)
    | none => .no
  | .un op x => Cm.ofO (sUn op (sev ρ x))
  | .cint k x => match sev ρ x with
    | .i _ n => .ret (.i k (k.wrap n))
    | _ => .no
  | .cstr x => match sev ρ x with
    | .s l => .ret (.s l)
    | _ => .no
  | .fieldAddr off l x => Cm.ofO (sPartAddr l (sev ρ x) off)
  | .field off l x => match sev ρ x with
    | .agg cs => Cm.ofO (sPart l cs off)
    | _ => .no
  | .idxArr m l x i => match sev ρ x, sLitIdx i with
    | .agg cs, some n => match Nat.blt n m with
      | true => Cm.ofO (sPart l cs (n * laySize l))
      | false => .no
    | _, _ => .no
  | .idxStr x i => match sev ρ x, sev ρ i with
    | .s l, .i _ n => .chk (0 <= n) (.get l[n.toNat]? fun b => .ret (.i .u8 b.toNat))
    | _, _ => .no
  | .adrSl sz x i => match sev ρ x, sev ρ i with
    | .lst c xs, .i _ n => match Nat.beq (C.sz c) sz with
      | true => .chk (0 <= n) (.get xs[n.toNat]? fun y => .ret (.rp (wrapS (C.lay c) (C.cells c y))))
      | false => .no
    | .sl c o off len _, .i _ n => match Nat.beq (C.sz c) sz with
      | true => .chk (0 <= n ∧ n < (len : Int)) (.ret (.eptr c o (off + n.toNat) 0))
      | false => .no
    | _, _ => .no
  | .adrArr m l x i => match sLitIdx i with
    | some n => match Nat.blt n m with
      | true => Cm.ofO (sPartAddr l (sev ρ x) (n * laySize l))
      | false => .no
    | none => .no
  | .slStr x lo hi => match sev ρ x with
    | .s s => (sBnd (sevO ρ hi) s.length s.length).bind fun h => (sBnd (sevO ρ lo) 0 h).bind fun l => .ret (.s ((s.take h).drop l))
    | _ => .no
  | .slSl sz x lo hi mx => match sev ρ x with
    | .lst c xs => match Nat.beq (C.sz c) sz with
      | true => match mx with
        | none => (sBnd (sevO ρ hi) xs.length xs.length).bind fun h => (sBnd (sevO ρ lo) 0 h).bind fun l => .ret (.lst c ((xs.take h).drop l))
        | some _ => match zeroAX mx, zeroAX hi, lo with
          | true, true, none => .ret .z0
          | _, _, _ => .no
      | false => .no
    | .sl c o off len cap => match Nat.beq (C.sz c) sz with
      | true => (sBnd (sevO ρ mx) (sCapD cap len) (sCapD cap len)).bind fun m => (sHi ρ hi mx len m).bind fun h => (sBnd (sevO ρ lo) 0 h).bind fun l =>
        .ret (.sl c o (off + l) (h - l) (sNewCap mx m l cap))
      | false => .no
    | .v (.slice none 0 0) => match mx with
      | none => (sBnd (sevO ρ hi) 0 0).bind fun h => (sBnd (sevO ρ lo) 0 h).bind fun _ => .ret (.v (.slice none 0 0))
      | some _ => .no
    | .z0 => match mx with
      | none => (sBnd (sevO ρ hi) 0 0).bind fun h => (sBnd (sevO ρ lo) 0 h).bind fun _ => .ret .z0
      | some _ => .no
    | _ => .no
  | .extract x i => match sev ρ x with
    | .tup vs => Cm.ofO (sNth vs i)
    | _ => .no
  | .mkFn f cap => .ret (.fn f (sevL ρ cap))
  | .mkIfc t x => .ret (.ifc t (sev ρ x))
  | .nilCheck x => match sev ρ x with
    | .ptr o k => .ret (.ptr o k)
    | .eptr c o j k => .ret (.eptr c o j k)
    | .rp y => .ret (.rp y)
    | .fn f cs => .ret (.fn f cs)
    | _ => .no
  | .len str x => match str, sev ρ x with
    | true, .s l => .ret (.i .i64 l.length)
    | false, .lst _ xs => .ret (.i .i64 xs.length)
    | false, .sl _ _ _ len _ => .ret (.i .i64 len)
    | false, .bl _ _ len => .ret (.i .i64 len)
    | false, .v (.slice none 0 0) => .ret (.i .i64 0)
    | false, .z0 => .ret (.i .i64 0)
    | _, _ => .no
  | .lenC n => .ret (.i .i64 n)
  | .mm mx x xs => Cm.ofO (sMm mx (sev ρ x) (sevL ρ xs))
section
variable {C : Cod Θ} {ι : Emb}
theorem bytes_toList (s : ByteArray) : bytesV s.data.toList = .string s := by
  unfold bytesV; simp
theorem rv_sofV (x : Value) : RV C ι (sofV x) (.v x) := by
  cases x <;> simp only [sofV] <;> first | exact .v _ | exact .i _ _ | exact .kb _ | skip
  rename_i s
  have := RV.s (C := C) (ι := ι) s.data.toList
  rw [bytes_toList] at this
  exact this
theorem sofL_map : ∀ xs : List AV, sofA.sofL (Θ := Θ) xs = xs.map sofA := by
  intro xs
  induction xs with
  | nil => rfl
  | cons x xs ih => simp [sofA.sofL, ih]
theorem rv_sofA : ∀ x : AV, RV C ι (sofA x) x := by
  intro x
  refine AV.rec (motive_1 := fun x => RV C ι (sofA x) x) (motive_2 := fun xs => RVs C ι (sofA.sofL xs) xs) ?_ ?_ ?_ ?_ ?_ ?_ ?_ ?_ ?_ ?_ ?_ ?_ ?_ ?_ x
  · exact .any _
  · exact fun x => rv_sofV x
  · exact fun cs ih => .agg ih.1 ih.2
  · exact fun cs ih => .tup ih.1 ih.2
  · exact fun _ _ _ => .any _
  · exact fun _ _ => .any _
  · exact fun _ _ _ _ _ => .any _
  · exact .z0
  · exact fun _ _ => .any _
  · exact fun f cs ih => .fn ih.1 ih.2
  · exact fun _ => .any _
  · exact fun _ _ _ => .any _
  · exact .nil
  · exact fun x xs h1 h2 => .cons h1 h2
theorem rv_sofL (xs : List AV) : RVs C ι (sofA.sofL xs) xs := by
  rw [sofL_map]
  have := RVs.of_map (C := C) (ι := ι) xs sofA id fun x _ => rv_sofA x
  simpa using this
theorem rv_sev {ρ : SEnv Θ} {e : Env} (h : RE C ι ρ e) (x : AX) : RV C ι (sev ρ x) (x.ev e) := by
  cases x with
  | s t => exact h t
  | c x => exact rv_sofA x
theorem rv_sevL {ρ : SEnv Θ} {e : Env} (h : RE C ι ρ e) (xs : List AX) : RVs C ι (sevL ρ xs) (xs.map (·.ev e)) := by
  induction xs with
  | nil => exact .nil
  | cons x xs ih => exact .cons (rv_sev h x) ih
theorem rv_flat {x : SV Θ} {a : AV} {vs : List (SV Θ)} (h : RV C ι x a) (hf : x.flat = some vs) : ∃ as, a.flat = some as ∧ RVs C ι vs as := by
  cases h with
  | any => simp [SV.flat] at hf
  | agg hl h => simp [SV.flat] at hf; subst hf; exact ⟨_, rfl, hl, h⟩
  | v x =>
    cases x <;> simp only [SV.flat] at hf <;> first
      | (cases hf; exact ⟨_, rfl, .cons (.v _) .nil⟩)
      | cases hf
  | slNil ho hc ha => simp only [SV.flat, Option.some.injEq] at hf; subst hf; rcases ha with rfl | rfl <;> exact ⟨_, rfl, .cons (.slNil ho hc (by simp [nilSl])) .nil⟩
  | _ => simp only [SV.flat, Option.some.injEq] at hf; subst hf; refine ⟨_, rfl, .cons ?_ .nil⟩; constructor <;> assumption
theorem rv_part {l : Option Nat} {cs : List (SV Θ)} {as : List AV} {off : Nat} {y : SV Θ} (h : RVs C ι cs as) (hp : sPart l cs off = some y) : ∃ a, partA l as off = some a ∧ RV C ι y a := by
  cases l with
  | some n =>
    simp only [sPart] at hp
    split at hp
    · rename_i hle
      cases hp
      have hle' := Nat.le_of_ble_eq_true hle
      have := (h.drop off).take n
      exact ⟨_, by simp only [partA]; rw [if_pos (by rw [<- h.1]; exact hle')], .agg this.1 this.2⟩
    · cases hp
  | none => exact h.get hp
theorem sfill_sound : ∀ {parts : List (Nat × Nat × SV Θ)} {ps : List (Nat × Nat × AV)} {cs : List (SV Θ)} {as : List AV} {ds : List (SV Θ)}, RVs C ι cs as ->
    parts.length = ps.length -> (∀ (i : Nat) (x : Nat × Nat × SV Θ) (y : Nat × Nat × AV), parts[i]? = some x -> ps[i]? = some y -> x.1 = y.1 ∧ x.2.1 = y.2.1 ∧ RV C ι x.2.2 y.2.2) -> sFill cs parts = some ds ->
    ∃ bs, fillA as ps = some bs ∧ RVs C ι ds bs := by
  intro parts
  induction parts with
  | nil => intro ps cs as ds h hl _ hf; cases ps with
    | nil => simp [sFill] at hf; subst hf; exact ⟨as, rfl, h⟩
    | cons _ _ => simp at hl
  | cons p parts ih =>
    intro ps cs as ds h hl hp hf
    cases ps with
    | nil => simp at hl
    | cons q ps =>
      obtain ⟨off, size, x⟩ := p
      obtain ⟨off', size', a⟩ := q
      obtain ⟨h1, h2, h3⟩ := hp 0 _ _ rfl rfl
      simp only at h1 h2 h3
      subst h1; subst h2
      simp only [sFill] at hf
      split at hf
      · rename_i vs hvs
        obtain ⟨bs, hb1, hb2⟩ := rv_flat h3 hvs
        split at hf
        · rename_i hlen
          split at hf
          · rename_i hle
            have hlen' := nbeq_true hlen
            have hle' := Nat.le_of_ble_eq_true hle
            obtain ⟨ds', k1, k2⟩ := ih (ps := ps) ((h.take off).append (hb2.append (h.drop (off + size)))) (by simpa using hl) (fun i x y hx hy => hp (i + 1) x y (by simpa using hx) (by simpa using hy)) hf
            refine ⟨ds', ?_, k2⟩
            simp only [fillA, hb1]
            rw [if_pos ⟨by rw [<- hb2.1]; exact hlen', by rw [<- h.1]; exact hle'⟩]
            exact k1
          · cases hf
        · cases hf
      · cases hf
theorem parts_sound {ρ : SEnv Θ} {e : Env} (h : RE C ι ρ e) : ∀ (parts : List (Nat × Nat × AX)), (sParts ρ parts).length = (parts.map fun (o, s, x) => (o, s, x.ev e)).length ∧
    ∀ (i : Nat) (x : Nat × Nat × SV Θ) (y : Nat × Nat × AV), (sParts ρ parts)[i]? = some x -> (parts.map fun (o, s, x) => (o, s, x.ev e))[i]? = some y -> x.1 = y.1 ∧ x.2.1 = y.2.1 ∧ RV C ι x.2.2 y.2.2 := by
  intro parts
  induction parts with
  | nil => exact ⟨rfl, fun i x y hx _ => by simp [sParts] at hx⟩
  | cons p parts ih =>
    obtain ⟨o, s, x⟩ := p
    refine ⟨by simp [sParts, ih.1], fun i a b ha hb => ?_⟩
    cases i with
    | zero => simp [sParts] at ha hb; subst ha; subst hb; exact ⟨rfl, rfl, rv_sev h x⟩
    | succ i => exact ih.2 i a b (by simpa [sParts] using ha) (by simpa using hb)
theorem ba_toList (l : List UInt8) : (⟨l.toArray⟩ : ByteArray).toList = l := by
  have key : ∀ (n i : Nat) (r : List UInt8), l.length - i = n -> ByteArray.toList.loop ⟨l.toArray⟩ i r = r.reverse ++ l.drop i := by
    intro n
    induction n with
    | zero =>
      intro i r hn
      unfold ByteArray.toList.loop
      have : ¬ i < (⟨l.toArray⟩ : ByteArray).size := by simp [ByteArray.size]; omega
      rw [if_neg this, List.drop_eq_nil_of_le (by omega)]
      simp
    | succ n ih =>
      intro i r hn
      unfold ByteArray.toList.loop
      have hi : i < l.length := by omega
      have : i < (⟨l.toArray⟩ : ByteArray).size := by simp [ByteArray.size]; exact hi
      rw [if_pos this, ih _ _ (by omega)]
      have hg : (⟨l.toArray⟩ : ByteArray).get! i = l[i] := by
        simp [ByteArray.get!, hi]
      rw [hg, List.reverse_cons, List.append_assoc, List.singleton_append, List.drop_eq_getElem_cons hi]
  have := key _ 0 [] rfl
  simpa [ByteArray.toList] using this
theorem beq_ba (x y : List UInt8) : ((⟨x.toArray⟩ : ByteArray) == ⟨y.toArray⟩) = decide (x = y) := by
  have : ((⟨x.toArray⟩ : ByteArray) == ⟨y.toArray⟩) = (x.toArray == y.toArray) := rfl
  rw [this, Bool.eq_iff_iff, decide_eq_true_iff]
  simp
theorem int_sound {op : BinOp} {k : IntKind} {x y : Int} {K : SV Θ -> Prop} (h : (sInt op k x y).den K) : ∃ v a, intF op k x y = some a ∧ RV C ι v a ∧ K v := by
  cases op <;> simp only [sInt, Cm.den] at h <;> first
    | exact ⟨_, _, rfl, .i _ _, h⟩
    | exact ⟨_, _, rfl, .b _, h⟩
    | (refine ⟨_, _, by simp only [intF]; rw [if_neg h.1], .i _ _, h.2⟩)
    | exact h.elim
theorem bin_sound {op : BinOp} {x y : SV Θ} {a b : AV} {K : SV Θ -> Prop} (hx : RV C ι x a) (hy : RV C ι y b) (h : (sBin op x y).den K) : ∃ v r, binF op a b = some r ∧ RV C ι v r ∧ K v := by
  unfold sBin at h
  split at h
  · rename_i k n k' m
    cases hx; cases hy
    split at h
    · rename_i hs
      simp only [binF, hs, if_true]
      cases op <;> simp only [sShift, Cm.den] at h <;> first
        | (refine ⟨_, _, by simp only [shiftF]; rw [if_neg (by omega)], .i _ _, h.2⟩)
        | exact h.elim
    · rename_i hs
      simp only [binF, hs, Bool.false_eq_true, if_false]
      split at h
      · rename_i hk
        rw [if_pos hk]
        exact int_sound h
      · exact h.elim
  · rename_i s t
    cases hx; cases hy
    simp only [binF, bytesV]
    cases op <;> simp only [sStr, Cm.den] at h <;> first
      | (refine ⟨_, _, by simp only [strF]; rw [if_pos (by simpa [ByteArray.size] using h.1)], ?_, h.2⟩
         have : (⟨s.toArray⟩ : ByteArray) ++ ⟨t.toArray⟩ = ⟨(s ++ t).toArray⟩ := by
           apply ByteArray.ext
           simp [ByteArray.data_append]
         rw [this]; exact .s _)
      | (refine ⟨_, _, rfl, ?_, h⟩
         simp only [ba_toList]
         first
         | exact .b _
         | (have e : (s == t) = decide (s = t) := by rw [Bool.eq_iff_iff, beq_iff_eq, decide_eq_true_iff]
            rw [e]; exact .b _))
      | exact h.elim
  · exact h.elim
theorem nil_sound {d : TypeDesc} {x : SV Θ} {a : AV} {b : Bool} (hx : RV C ι x a) (h : sNil d x = some b) : nilF d a = some b := by
  unfold sNil at h
  split at h <;> cases h <;> cases hx <;> rfl
theorem bool_rv {x : SV Θ} {a : AV} {b : Bool} (hx : RV C ι x a) (h : x.bool? = some b) : a = .v (.bool b) := by
  cases hx <;> simp [SV.bool?] at h <;> subst h <;> rfl
theorem leaf_sound {k : Leaf} {x y : SV Θ} {a b : AV} {r : Bool} (hx : RV C ι x a) (hy : RV C ι y b) (h : sLeaf k x y = some r) : leafEq k a b = some r := by
  cases k with
  | int k =>
    simp only [sLeaf] at h
    split at h
    · split at h
      · rename_i hk; cases h; cases hx; cases hy; simp only [leafEq]; rw [if_pos hk]; rfl
      · cases h
    · cases h
  | str =>
    simp only [sLeaf] at h
    split at h
    · cases h; cases hx; cases hy; simp only [leafEq, bytesV]; rw [beq_ba]
    · cases h
  | bool =>
    simp only [sLeaf] at h
    split at h
    · rename_i h1 h2
      cases h
      rw [bool_rv hx h1, bool_rv hy h2]
      rfl
    · cases h
theorem leaves_sound : ∀ {ks : List Leaf} {xs ys : List (SV Θ)} {as bs : List AV} {r : Bool}, RVs C ι xs as -> RVs C ι ys bs -> sLeaves ks xs ys = some r -> leavesEq ks as bs = some r := by
  intro ks
  induction ks with
  | nil =>
    intro xs ys as bs r hx hy h
    cases xs <;> cases ys <;> simp only [sLeaves] at h <;> first | cases h | skip
    rw [hx.unnil, hy.unnil]; rfl
  | cons k ks ih =>
    intro xs ys as bs r hx hy h
    cases xs with
    | nil => cases ys <;> simp [sLeaves] at h
    | cons x xs => cases ys with
      | nil => simp [sLeaves] at h
      | cons y ys =>
        obtain ⟨a, as, rfl, ha, has⟩ := hx.uncons
        obtain ⟨b, bs, rfl, hb, hbs⟩ := hy.uncons
        simp only [sLeaves] at h
        split at h
        · rename_i p hp
          have h1 := leaf_sound ha hb hp
          split at h
          · split at h
            · cases h
              rw [has.unnil, hbs.unnil]
              simp [leavesEq, h1]
            · cases h
          · split at h
            · rename_i q hq
              cases h
              have h2 := ih has hbs hq
              simp only [leavesEq, h1, h2]
            · cases h
        · cases h
theorem eq_sound {ks : List Leaf} {agg : Bool} {x y : SV Θ} {a b : AV} {r : Bool} (hx : RV C ι x a) (hy : RV C ι y b) (h : sEq ks agg x y = some r) : eqF ks agg a b = some r := by
  unfold sEq at h
  split at h
  · split at h
    · cases hx with
      | agg hl1 h1 => cases hy with
        | agg hl2 h2 => exact leaves_sound ⟨hl1, h1⟩ ⟨hl2, h2⟩ h
    · cases h
  · split at h
    · exact leaf_sound hx hy h
    · cases h
theorem un_sound {op : UnOp} {x v : SV Θ} {a : AV} (hx : RV C ι x a) (h : sUn op x = some v) : ∃ r, unF op a = some r ∧ RV C ι v r := by
  unfold sUn at h
  split at h <;> cases h <;> cases hx
  · exact ⟨_, rfl, .i _ _⟩
  · exact ⟨_, rfl, .i _ _⟩
  · exact ⟨_, rfl, .b _⟩
  · exact ⟨_, rfl, .kb _⟩
theorem spartAddr_sound {l : Option Nat} {x v : SV Θ} {a : AV} {off : Nat} (hx : RV C ι x a) (h : sPartAddr l x off = some v) : ∃ r, partAddr l a off = some r ∧ RV C ι v r := by
  unfold sPartAddr at h
  split at h
  · cases h; cases hx with | ptr ho => exact ⟨_, rfl, .ptr ho⟩
  · rename_i c o j k; cases h; cases hx with | eptr ho => exact ⟨_, rfl, by rw [Nat.add_assoc]; exact .eptr ho⟩
  · rename_i cs
    cases hx with
    | @rp _ a hx' =>
      cases hx' with
      | @agg _ as0 hl hh =>
        split at h
        · rename_i y hy
          obtain ⟨b, hb, hr⟩ := rv_part (C := C) (ι := ι) ⟨hl, hh⟩ hy
          have key : (l.isSome || !b.isAgg) = true -> (v = .rp y) -> ∃ r, partAddr l (.rp (.agg as0)) off = some r ∧ RV C ι v r := by
            intro h1 h2
            refine ⟨.rp b, ?_, h2 ▸ .rp hr⟩
            simp only [partAddr, AV.cells_agg, hb, Option.bind_some]
            rw [if_pos h1]
          split at h
          · cases h; exact key (by simp) rfl
          · cases h
          · cases h
          · cases h
          · cases h
            refine key ?_ rfl
            cases hr <;> first
              | rfl
              | (rename_i ha; rcases ha with rfl | rfl <;> rfl)
              | simp_all
        · cases h
  · cases h
theorem bnd_sound {x : Option (SV Θ)} {y : Option AV} {d n : Nat} {K : Nat -> Prop} (hx : x.isNone = y.isNone) (hr : ∀ a b, x = some a -> y = some b -> RV C ι a b) (h : (sBnd x d n).den K) :
    ∃ m, (match y with | some v => boundF v n | none => some d) = some m ∧ K m ∧ (y = none -> m = d) ∧ (y.isSome = true -> m <= n) := by
  unfold sBnd at h
  split at h
  · cases y with
    | none => exact ⟨d, rfl, h, fun _ => rfl, fun h => by cases h⟩
    | some _ => simp at hx
  · rename_i k v
    cases y with
    | none => simp at hx
    | some b =>
      have := hr _ _ rfl rfl
      cases this
      simp only [Cm.den] at h
      exact ⟨_, by simp only [boundF]; rw [if_pos h.1], h.2, fun h => (by cases h), fun _ => by omega⟩
  · exact h.elim
theorem sevO_none {ρ : SEnv Θ} {x : Option AX} {e : Env} : (sevO ρ x).isNone = (x.map (·.ev e)).isNone := by cases x <;> rfl
theorem sevO_rv {ρ : SEnv Θ} {e : Env} (h : RE C ι ρ e) {x : Option AX} : ∀ a b, sevO ρ x = some a -> x.map (·.ev e) = some b -> RV C ι a b := by
  intro a b h1 h2
  cases x with
  | none => simp [sevO] at h1
  | some x => simp [sevO] at h1 h2; subst h1; subst h2; exact rv_sev h x
theorem nth_get {α : Type} : ∀ (xs : List α) (n : Nat), sNth xs n = xs[n]? := by
  intro xs
  induction xs with
  | nil => intro n; rfl
  | cons x xs ih => intro n; cases n with
    | zero => rfl
    | succ n => simpa [sNth] using ih n
theorem mm_sound {mx : Bool} : ∀ {xs : List (SV Θ)} {as : List AV} {x v : SV Θ} {a : AV}, RV C ι x a -> RVs C ι xs as -> sMm mx x xs = some v -> ∃ r, mmF mx a as = some r ∧ RV C ι v r := by
  intro xs
  induction xs with
  | nil => intro as x v a hx hs h; rw [hs.unnil]; simp [sMm] at h; subst h; exact ⟨a, rfl, hx⟩
  | cons y ys ih =>
    intro as x v a hx hs h
    obtain ⟨b, bs, rfl, hb, hbs⟩ := hs.uncons
    unfold sMm at h
    split at h
    · rename_i h1; cases h1
    · rename_i k n k' m rest h1
      cases h1
      cases hx; cases hb
      split at h
      · rename_i hk
        subst hk
        simp only [mmF, if_true]
        cases mx with
        | true =>
          have e : (if n < m then m else n) = max n m := by split <;> omega
          simp only [if_true, e]
          exact ih (.i _ _) hbs h
        | false =>
          have e : (if m < n then m else n) = min n m := by split <;> omega
          simp only [Bool.false_eq_true, if_false, e]
          exact ih (.i _ _) hbs h
      · cases h
    · cases h
def bHi (hi mx : Option AV) (len m : Nat) : Option Nat :=
  match hi, mx with
  | some v, _ => boundF v m
  | none, none => some len
  | none, some _ => none
def bOr (x : Option AV) (d n : Nat) : Option Nat :=
  match x with
  | some v => boundF v n
  | none => some d
theorem boundF_mono {v : AV} {m m' h : Nat} (hb : boundF v m = some h) (hm : h <= m' ∨ m <= m') : boundF v m' = some h := by
  unfold boundF at hb ⊢
  split at hb
  · split at hb
    · rename_i h1; cases hb; rw [if_pos ⟨h1.1, by omega⟩]
    · cases hb
  · cases hb
theorem boundsF_some {len cap l h m : Nat} {lo hi mx : Option AV} (h1 : bOr mx cap cap = some m) (h2 : bHi hi mx len m = some h) (h3 : bOr lo 0 h = some l) : boundsF len cap lo hi mx = some (l, h, m) := by
  unfold bOr at h1 h3
  unfold bHi at h2
  unfold boundsF
  cases mx <;> cases hi <;> cases lo <;> simp_all
theorem wrap_rv (ok : CodOk C) {c : Nat} (x : Θ c) : RV C ι (wrapS (C.lay c) (C.cells c x)) (C.avE c x) := by
  have hr := ok.rd c x ι
  have hl := ok.len c x
  unfold Cod.avE wrapS wrapA
  unfold Cod.sz at hl
  split
  · exact .agg hr.1 hr.2
  · rename_i hlay
    rw [hlay] at hl
    simp only [laySize] at hl
    match h1 : C.avs c x, hl with
    | [a], _ =>
      rw [h1] at hr
      have := hr.1
      match h2 : C.cells c x, this with
      | [y], _ =>
        rw [h2] at hr
        exact hr.2 0 y a rfl rfl
theorem pure_typed (ok : CodOk C) {ρ : SEnv Θ} {e : Env} (he : RE C ι ρ e) {op : POp} {K : SV Θ -> Prop} (h : (sP C ρ op).den K) : ∃ v a, op.run e = some a ∧ RV C ι v a ∧ K v := by
  have ofO : ∀ {o : Option (SV Θ)}, (Cm.ofO o).den K -> ∃ v, o = some v ∧ K v := by
    intro o h
    cases o with
    | some v => exact ⟨v, rfl, h⟩
    | none => exact h.elim
  cases op with
  | mov x => exact ⟨_, _, rfl, rv_sev he x, h⟩
  | pick c a b =>
    simp only [sP] at h
    have hc := rv_sev he c
    split at h
    · rename_i hk; rw [hk] at hc; cases hc' : c.ev e with
      | v x => rw [hc'] at hc; cases hc; exact ⟨_, _, by simp [POp.run, hc'], rv_sev he a, h⟩
      | _ => rw [hc'] at hc; cases hc
    · rename_i hk; rw [hk] at hc; cases hc' : c.ev e with
      | v x => rw [hc'] at hc; cases hc; exact ⟨_, _, by simp [POp.run, hc'], rv_sev he b, h⟩
      | _ => rw [hc'] at hc; cases hc
    · exact h.elim
  | build zs parts =>
    simp only [sP] at h
    split at h
    · rename_i cs hcs
      obtain ⟨bs, h1, h2⟩ := sfill_sound (rv_sofL zs) (parts_sound he parts).1 (parts_sound he parts).2 hcs
      refine ⟨_, .agg bs, ?_, .agg h2.1 h2.2, h⟩
      simp only [POp.run, h1, Option.map_some]
    · exact h.elim
  | bin op x y => exact bin_sound (rv_sev he x) (rv_sev he y) h
  | eqn neg d x =>
    simp only [sP] at h
    split at h
    · rename_i b hb
      have := nil_sound (rv_sev he x) hb
      cases neg with
      | true => cases b <;> exact ⟨_, _, by simp only [POp.run, this, Option.map_some]; rfl, .kb _, h⟩
      | false => exact ⟨_, _, by simp only [POp.run, this, Option.map_some]; rfl, .kb _, h⟩
    · exact h.elim
  | eqa neg ks agg x y =>
    simp only [sP] at h
    split at h
    · rename_i b hb
      have := eq_sound (rv_sev he x) (rv_sev he y) hb
      cases neg with
      | true => exact ⟨_, _, by simp only [POp.run, this, Option.map_some]; rfl, .b _, h⟩
      | false => exact ⟨_, _, by simp only [POp.run, this, Option.map_some]; rfl, .b _, h⟩
    · exact h.elim
  | un op x =>
    obtain ⟨v, h1, h2⟩ := ofO h
    obtain ⟨r, h3, h4⟩ := un_sound (rv_sev he x) h1
    exact ⟨v, r, h3, h4, h2⟩
  | cint k x =>
    simp only [sP] at h
    have hx := rv_sev he x
    split at h
    · rename_i hk; rw [hk] at hx
      refine ⟨_, .v (.int k (k.wrap _)), ?_, .i _ _, h⟩
      simp only [POp.run]
      generalize x.ev e = a at hx
      cases hx; rfl
    · exact h.elim
  | cstr x =>
    simp only [sP] at h
    have hx := rv_sev he x
    split at h
    · rename_i l hk; rw [hk] at hx
      refine ⟨_, .v (bytesV l), ?_, .s _, h⟩
      simp only [POp.run]
      generalize x.ev e = a at hx
      cases hx; rfl
    · exact h.elim
  | fieldAddr off l x =>
    obtain ⟨v, h1, h2⟩ := ofO h
    obtain ⟨r, h3, h4⟩ := spartAddr_sound (rv_sev he x) h1
    exact ⟨v, r, h3, h4, h2⟩
  | field off l x =>
    simp only [sP] at h
    have hx := rv_sev he x
    split at h
    · rename_i cs hk; rw [hk] at hx
      obtain ⟨v, h1, h2⟩ := ofO h
      simp only [POp.run]
      generalize x.ev e = a at hx
      cases hx with
      | agg hl hh =>
        obtain ⟨r, h3, h4⟩ := rv_part ⟨hl, hh⟩ h1
        exact ⟨v, r, h3, h4, h2⟩
    · exact h.elim
  | idxArr m l x i =>
    simp only [sP] at h
    have hx := rv_sev he x
    split at h
    · rename_i cs n hk hi; rw [hk] at hx
      split at h
      · rename_i hlt
        obtain ⟨v, h1, h2⟩ := ofO h
        have hi' : ∃ k, i = .c (.v (.int k (.ofNat n))) := by
          unfold sLitIdx at hi
          split at hi
          · cases hi; exact ⟨_, rfl⟩
          · cases hi
        obtain ⟨k, rfl⟩ := hi'
        have hlt' : n < m := Nat.le_of_ble_eq_true hlt
        simp only [POp.run]
        generalize x.ev e = a at hx
        cases hx with
        | agg hl hh =>
          obtain ⟨r, h3, h4⟩ := rv_part ⟨hl, hh⟩ h1
          refine ⟨v, r, ?_, h4, h2⟩
          simp only [AX.ev_c]
          rw [if_pos ⟨Int.natCast_nonneg n, by simp; omega⟩]
          exact h3
      · exact h.elim
    · exact h.elim
  | idxStr x i =>
    simp only [sP] at h
    have hx := rv_sev he x
    have hi := rv_sev he i
    split at h
    · rename_i l k n hk hk'; rw [hk] at hx; rw [hk'] at hi
      obtain ⟨h0, b, hb, hK⟩ := h
      simp only [POp.run]
      generalize x.ev e = a at hx
      generalize i.ev e = a' at hi
      cases hx; cases hi
      refine ⟨_, _, ?_, .i _ _, hK⟩
      simp only [bytesV]
      rw [if_pos h0]
      have : l.toArray[n.toNat]? = some b := by simpa using hb
      rw [this]; rfl
    · exact h.elim
  | adrSl sz x i =>
    simp only [sP] at h
    have hx := rv_sev he x
    have hi := rv_sev he i
    split at h
    · rename_i c xs k n hk hk'; rw [hk] at hx; rw [hk'] at hi
      split at h
      · rename_i hsz
        have hsz' := nbeq_true hsz
        obtain ⟨h0, y, hy, hK⟩ := h
        simp only [POp.run]
        generalize x.ev e = a at hx
        generalize i.ev e = a' at hi
        cases hx; cases hi
        refine ⟨_, .rp (C.avE c y), ?_, .rp (wrap_rv ok y), hK⟩
        simp only
        rw [if_pos ⟨hsz', h0⟩, List.getElem?_map, hy]
        rfl
      · exact h.elim
    · rename_i c o off len cap k n hk hk'; rw [hk] at hx; rw [hk'] at hi
      split at h
      · rename_i hsz
        have hsz' := nbeq_true hsz
        obtain ⟨h0, hK⟩ := h
        simp only [POp.run]
        generalize x.ev e = a at hx
        generalize i.ev e = a' at hi
        cases hi
        cases hx with
        | sl ho _ _ =>
          refine ⟨_, _, by simp only; rw [if_pos ⟨hsz', h0⟩], ?_, hK⟩
          have := RV.eptr (C := C) (c := c) (j := off + n.toNat) (off := 0) ho
          rw [Nat.add_zero, Nat.add_mul, hsz'] at this
          rw [hsz']
          exact this
        | slNil ho _ _ => have := h0.2; simp at this; omega
      · exact h.elim
    · exact h.elim
  | adrArr m l x i =>
    simp only [sP] at h
    have hx := rv_sev he x
    split at h
    · rename_i n hi
      split at h
      · rename_i hlt
        obtain ⟨v, h1, h2⟩ := ofO h
        have hi' : ∃ k, i = .c (.v (.int k (.ofNat n))) := by
          unfold sLitIdx at hi
          split at hi
          · cases hi; exact ⟨_, rfl⟩
          · cases hi
        obtain ⟨k, rfl⟩ := hi'
        have hlt' : n < m := Nat.le_of_ble_eq_true hlt
        obtain ⟨r, h3, h4⟩ := spartAddr_sound hx h1
        refine ⟨v, r, ?_, h4, h2⟩
        simp only [POp.run, AX.ev_c]
        rw [if_pos ⟨Int.natCast_nonneg n, by simp; omega⟩]
        exact h3
      · exact h.elim
    · exact h.elim
  | slStr x lo hi =>
    simp only [sP] at h
    have hx := rv_sev he x
    split at h
    · rename_i s hk; rw [hk] at hx
      have h := Cm.den_bind h
      obtain ⟨hh, h1, h, _⟩ := bnd_sound (sevO_none (e := e)) (sevO_rv he) h
      have h := Cm.den_bind h
      obtain ⟨ll, h2, h, _⟩ := bnd_sound (sevO_none (e := e)) (sevO_rv he) h
      simp only [POp.run]
      generalize x.ev e = a at hx
      cases hx
      refine ⟨_, .v (bytesV ((s.take hh).drop ll)), ?_, .s _, h⟩
      have hsz : (⟨s.toArray⟩ : ByteArray).size = s.length := by simp [ByteArray.size]
      simp only [bytesV, hsz]
      rw [boundsF_some (mx := none) rfl (by cases hi <;> exact h1) h2]
      simp only [Option.map_some]
      congr 3
      apply ByteArray.ext
      simp [ByteArray.data_extract, List.extract_toArray, List.extract_eq_take_drop, List.take_drop]
      rcases Nat.le_total ll hh with h3 | h3
      · rw [Nat.add_sub_cancel' h3]
      · rw [show hh - ll = 0 by omega]
        simp
        omega
    · exact h.elim
  | slSl sz x lo hi mx =>
    simp only [sP] at h
    have hx := rv_sev he x
    split at h
    · rename_i c xs hk; rw [hk] at hx
      split at h
      · rename_i hsz
        have hsz' := nbeq_true hsz
        simp only [POp.run]
        generalize x.ev e = a at hx
        cases hx
        split at h
        · have h := Cm.den_bind h
          obtain ⟨hh, h1, h, _⟩ := bnd_sound (sevO_none (e := e)) (sevO_rv he) h
          have h := Cm.den_bind h
          obtain ⟨ll, h2, h, _⟩ := bnd_sound (sevO_none (e := e)) (sevO_rv he) h
          refine ⟨_, _, ?_, .lst c _, h⟩
          simp only [sliceF, if_pos hsz', List.length_map, Option.map_none]
          rw [boundsF_some (mx := none) rfl (by cases hi <;> exact h1) h2]
          simp [hsz', List.map_drop, List.map_take]
        · rename_i mm
          split at h
          · rename_i z1 z2
            have zz : ∀ {o : Option AX}, zeroAX o = true -> ∃ k, o = some (.c (.v (.int k 0))) := by
              intro o ho
              unfold zeroAX at ho
              split at ho
              · rename_i k n; have := nbeq_true ho; subst this; exact ⟨k, rfl⟩
              · cases ho
            obtain ⟨k1, e1⟩ := zz z1
            obtain ⟨k2, e2⟩ := zz z2
            subst e2
            cases e1
            refine ⟨.z0, .z0, ?_, .z0, h⟩
            simp only [sliceF, if_pos hsz', Option.map_some, AX.ev_c, Option.map_none]
            have b0 : ∀ (k : IntKind) (n : Nat), boundF (.v (.int k 0)) n = some 0 := by
              intro k n
              simp only [boundF]
              rw [if_pos ⟨Int.le_refl 0, Int.natCast_nonneg n⟩]
              rfl
            have hb : ∀ n, boundsF n n none (some (.v (.int k2 0))) (some (.v (.int k1 0))) = some (0, 0, 0) := fun n => boundsF_some (m := 0) (h := 0) (l := 0) (b0 k1 n) (b0 k2 0) rfl
            rw [hb]
            rfl
          · exact h.elim
      · exact h.elim
    · rename_i c o off len cap hk; rw [hk] at hx
      split at h
      · rename_i hsz
        have hsz' := nbeq_true hsz
        have h := Cm.den_bind h
        have capd : sCapD cap len = cap.getD len := by cases cap <;> rfl
        rw [capd] at h
        obtain ⟨m, hm1, hm3, hm0, hm2⟩ := bnd_sound (y := mx.map (·.ev e)) (sevO_none (e := e)) (sevO_rv he) h
        have hm3 := Cm.den_bind hm3
        obtain ⟨hh, hh1, hh3, hhm⟩ : ∃ hh, (∀ m', m <= m' -> bHi (hi.map (·.ev e)) (mx.map (·.ev e)) len m' = some hh) ∧
            (Cm.bind (fun l => .ret (.sl c o (off + l) (hh - l) (sNewCap mx m l cap))) (sBnd (sevO ρ lo) 0 hh)).den K ∧ (hi.isSome = true -> hh <= m) ∧ (hi = none -> hh = len ∧ mx = none) := by
          cases hi with
          | none => cases mx with
            | none => exact ⟨len, fun _ _ => rfl, hm3, fun h => (by cases h), fun _ => ⟨rfl, rfl⟩⟩
            | some x => exact hm3.elim
          | some x =>
            obtain ⟨hh, h1, h2, _, h4⟩ := bnd_sound (y := some (x.ev e)) rfl (fun a b h1 h2 => by cases h1; cases h2; exact rv_sev he x) hm3
            refine ⟨hh, fun m' hm' => ?_, h2, fun _ => h4 rfl, fun h => by cases h⟩
            exact boundF_mono h1 (.inr hm')
        have hh3 := Cm.den_bind hh3
        obtain ⟨ll, hl1, hl3, _, hl4⟩ := bnd_sound (sevO_none (e := e)) (sevO_rv he) hh3
        have hll : ll <= hh := by
          cases lo with
          | none => simp at hl1; omega
          | some _ => exact hl4 rfl
        simp only [POp.run]
        generalize x.ev e = a at hx
        cases hx with
        | @sl _ _ _ _ _ acap p ho hk' hc' =>
          have hle : cap.getD len <= acap.getD len := by
            rcases hc' with h | h
            · rw [h]; exact Nat.le_refl _
            · rw [h]
              cases acap with
              | none => exact Nat.le_refl _
              | some k => exact hk' k rfl
          obtain ⟨m', hm', hmm, hmx⟩ : ∃ m', bOr (mx.map (·.ev e)) (acap.getD len) (acap.getD len) = some m' ∧ m <= m' ∧ (mx.isSome = true -> m' = m) := by
            cases mx with
            | none => exact ⟨_, rfl, by have := hm0 rfl; omega, fun h => by cases h⟩
            | some x =>
              refine ⟨m, ?_, Nat.le_refl _, fun _ => rfl⟩
              exact boundF_mono hm1 (.inr hle)
          refine ⟨_, .sl sz p (off * C.sz c + ll * sz) (hh - ll) (newCap (mx.map (·.ev e)) m' ll acap), ?_, ?_, hl3⟩
          · simp only [sliceF, if_pos hsz', boundsF_some hm' (hh1 m' hmm) hl1, Option.map_some]
          · have hcap1 : ∀ k, newCap (mx.map (·.ev e)) m' ll acap = some k -> hh - ll <= k := by
              intro k hk2
              cases mx with
              | some x =>
                simp only [Option.map_some, newCap, Option.some.injEq] at hk2
                have : hh <= m := by
                  cases hi with
                  | none => have := (hhm.2 rfl).2; cases this
                  | some _ => exact hhm.1 rfl
                omega
              | none =>
                simp only [Option.map_none, newCap, Option.map_eq_some_iff] at hk2
                obtain ⟨k', hk1, hk2⟩ := hk2
                have h1 := hk' k' hk1
                have h2 := hm0 rfl
                have : hh <= k' := by
                  cases hi with
                  | none => have := (hhm.2 rfl).1; omega
                  | some _ =>
                    have := hhm.1 rfl
                    rw [hk1] at hle
                    simp at hle
                    omega
                omega
            have hcap : sNewCap mx m ll cap = newCap (mx.map (·.ev e)) m' ll acap ∨ sNewCap mx m ll cap = none := by
              cases mx with
              | some x => left; have := hmx rfl; subst this; cases acap <;> rfl
              | none => rcases hc' with h | h
                        · left; rw [h]; cases acap <;> rfl
                        · right; rw [h]; rfl
            have := RV.sl (C := C) (c := c) (off := off + ll) (len := hh - ll) ho hcap1 hcap
            rw [Nat.add_mul, hsz'] at this
            rw [hsz']
            exact this
        | slNil ho hc ha =>
          have hc0 : cap.getD 0 = 0 := by rcases hc with h | h <;> rw [h] <;> rfl
          have hm' : m = 0 := by
            cases mx with
            | none => have := hm0 rfl; omega
            | some _ => have := hm2 rfl; omega
          have hh0 : hh <= 0 := by
            cases hi with
            | none => have := (hhm.2 rfl).1; omega
            | some x => have := hhm.1 rfl; omega
          have hl0 : ll = 0 := by omega
          have hh0' : hh = 0 := by omega
          subst hl0; subst hh0'
          have hb : boundsF 0 0 (lo.map (·.ev e)) (hi.map (·.ev e)) (mx.map (·.ev e)) = some (0, 0, m) := by
            refine boundsF_some ?_ (hh1 m (Nat.le_refl _)) hl1
            cases mx with
            | none => rw [hm']; rfl
            | some x => rw [hc0] at hm1; exact hm1
          refine ⟨_, _, ?_, .slNil ho ?_ ha, hl3⟩
          · rcases ha with rfl | rfl <;> simp only [sliceF, nilSl, hb, Option.map_some]
          · unfold sNewCap
            cases mx with
            | some _ => exact .inr (by simp [hm'])
            | none => rcases hc with h | h <;> rw [h] <;> simp
      · exact h.elim
    · rename_i hk; rw [hk] at hx
      split at h
      · have h := Cm.den_bind h
        obtain ⟨hh, h1, h, _⟩ := bnd_sound (sevO_none (e := e)) (sevO_rv he) h
        have h := Cm.den_bind h
        obtain ⟨ll, h2, h, _⟩ := bnd_sound (sevO_none (e := e)) (sevO_rv he) h
        refine ⟨_, _, ?_, .v _, h⟩
        simp only [POp.run]
        generalize x.ev e = a at hx
        cases hx
        simp only [sliceF, Option.map_none]
        rw [boundsF_some (mx := none) rfl (by cases hi <;> exact h1) h2]
        rfl
      · exact h.elim
    · rename_i hk; rw [hk] at hx
      split at h
      · have h := Cm.den_bind h
        obtain ⟨hh, h1, h, _⟩ := bnd_sound (sevO_none (e := e)) (sevO_rv he) h
        have h := Cm.den_bind h
        obtain ⟨ll, h2, h, _⟩ := bnd_sound (sevO_none (e := e)) (sevO_rv he) h
        refine ⟨_, _, ?_, .z0, h⟩
        simp only [POp.run]
        generalize x.ev e = a at hx
        cases hx
        simp only [sliceF, Option.map_none]
        rw [boundsF_some (mx := none) rfl (by cases hi <;> exact h1) h2]
        rfl
      · exact h.elim
    · exact h.elim
  | extract x i =>
    simp only [sP] at h
    have hx := rv_sev he x
    split at h
    · rename_i vs hk; rw [hk] at hx
      obtain ⟨v, h1, h2⟩ := ofO h
      rw [nth_get] at h1
      simp only [POp.run]
      generalize x.ev e = a at hx
      cases hx with
      | tup hl hh =>
        obtain ⟨r, h3, h4⟩ := RVs.get ⟨hl, hh⟩ h1
        exact ⟨v, r, h3, h4, h2⟩
    · exact h.elim
  | mkFn f cap =>
    have := rv_sevL he cap
    exact ⟨_, _, rfl, .fn this.1 this.2, h⟩
  | mkIfc t x => exact ⟨_, _, rfl, .ifc (rv_sev he x), h⟩
  | nilCheck x =>
    simp only [sP] at h
    have hx := rv_sev he x
    simp only [POp.run]
    split at h
    · rename_i hk; rw [hk] at hx; generalize x.ev e = a at hx; cases hx with | ptr ho => exact ⟨_, _, rfl, .ptr ho, h⟩
    · rename_i hk; rw [hk] at hx; generalize x.ev e = a at hx; cases hx with | eptr ho => exact ⟨_, _, rfl, .eptr ho, h⟩
    · rename_i hk; rw [hk] at hx; generalize x.ev e = a at hx; cases hx with | rp hh => exact ⟨_, _, rfl, .rp hh, h⟩
    · rename_i hk; rw [hk] at hx; generalize x.ev e = a at hx; cases hx with | fn hl hh => exact ⟨_, _, rfl, .fn hl hh, h⟩
    · exact h.elim
  | len str x =>
    simp only [sP] at h
    have hx := rv_sev he x
    simp only [POp.run]
    split at h
    · rename_i l hk; rw [hk] at hx; generalize x.ev e = a at hx; cases hx
      refine ⟨_, _, rfl, ?_, h⟩
      have hsz : (⟨l.toArray⟩ : ByteArray).size = l.length := by simp [ByteArray.size]
      rw [hsz]; exact .i _ _
    · rename_i xs hk; rw [hk] at hx; generalize x.ev e = a at hx; cases hx
      refine ⟨_, _, rfl, ?_, h⟩
      rw [List.length_map]; exact .i _ _
    · rename_i hk; rw [hk] at hx; generalize x.ev e = a at hx; cases hx with
      | sl ho _ _ => exact ⟨_, _, rfl, .i _ _, h⟩
      | slNil ho _ ha => rcases ha with rfl | rfl <;> exact ⟨_, _, rfl, .i _ _, h⟩
    · rename_i hk; rw [hk] at hx; generalize x.ev e = a at hx; cases hx with
      | bl0 ho => exact ⟨_, _, rfl, .i _ _, h⟩
      | bl1 ho hk => exact ⟨_, _, rfl, .i _ _, h⟩
    · rename_i hk; rw [hk] at hx; generalize x.ev e = a at hx; cases hx; exact ⟨_, _, rfl, .i _ _, h⟩
    · rename_i hk; rw [hk] at hx; generalize x.ev e = a at hx; cases hx; exact ⟨_, _, rfl, .i _ _, h⟩
    · exact h.elim
  | lenC n => exact ⟨_, _, rfl, .i _ _, h⟩
  | mm mx x xs =>
    obtain ⟨v, h1, h2⟩ := ofO h
    obtain ⟨r, h3, h4⟩ := mm_sound (rv_sev he x) (rv_sevL he xs) h1
    exact ⟨v, r, h3, h4, h2⟩
end
end Go.Ab
