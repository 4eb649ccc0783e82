/- A part of a law's proof: SvMOp. -/
import Derived.Test.YtjkcjbkkgkhljaaSvPOp
set_option linter.constructorNameAsVariable false
/-
  Operations on memory, on typed values.
-/
namespace Go.Ab
open Go Go.RowKit
set_option linter.unusedVariables false
set_option linter.unusedSimpArgs false
variable {Θ : Nat -> Type}
def sOne : SV Θ -> Bool
  | .agg _ => false
  | .tup _ => false
  | .any => false
  | .v (.agg _) => false
  | .v (.tuple _) => false
  | _ => true
def sOnes : List (SV Θ) -> Bool
  | [] => true
  | x :: xs => match sOne x with
    | true => sOnes xs
    | false => false
def sSets (cs : List (SV Θ)) (off : Nat) : List (SV Θ) -> List (SV Θ)
  | [] => cs
  | v :: vs => sSets (cs.set off v) (off + 1) vs
def sCast {Θ : Nat -> Type} (c c' : Nat) (xs : List (Θ c')) : Option (List (Θ c)) :=
  if h : c' = c then some (h ▸ xs) else none
def sLoad (C : Cod Θ) (S : SHeap Θ) (l : Option Nat) : SV Θ -> Cm (SV Θ)
  | .ptr o off => match sNth S o with
    | some (.box cs) => Cm.ofO (sPart l cs off)
    | _ => .no
  | .eptr c o j off => match sNth S o with
    | some (.arr c' xs) => match Nat.beq c c' with
      | true => .get xs[j]? fun y => match Nat.ble (off + laySize l) (C.sz c') with
        | true => Cm.ofO (sPart l (C.cells c' y) off)
        | false => .no
      | false => .no
    | some (.hole c' xs k cs) => match Nat.beq c c', Nat.ble (off + laySize l) (C.sz c') with
      | true, true => .ite (decide (j = k)) (Cm.ofO (sPart l cs off)) (.get xs[j]? fun y => Cm.ofO (sPart l (C.cells c' y) off))
      | _, _ => .no
    | _ => .no
  | .rp x => match l with
    | some n => match x with
      | .agg cs => match Nat.beq cs.length n with
        | true => .ret (.agg cs)
        | false => .no
      | _ => .no
    | none => match sOne x with
      | true => .ret x
      | false => .no
  | _ => .no
def sStore (C : Cod Θ) (S : SHeap Θ) (l : Option Nat) (vs : List (SV Θ)) : SV Θ -> Cm (SHeap Θ)
  | .ptr o off => match sNth S o with
    | some (.box cs) => match Nat.beq vs.length (laySize l), Nat.ble (off + vs.length) cs.length, sOnes vs with
      | true, true, true => .ret (S.set o (.box (sSets cs off vs)))
      | _, _, _ => .no
    | _ => .no
  | .eptr c o j off => match sNth S o with
    | some (.arr c' xs) => match Nat.beq c c', Nat.beq vs.length (laySize l), Nat.ble (off + vs.length) (C.sz c') with
      | true, true, true => .get xs[j]? fun y => match C.dec c' (sSets (C.cells c' y) off vs) with
        | some y' => .ret (S.set o (.arr c' (xs.set j y')))
        | none => match Nat.beq off 0, Nat.beq vs.length (C.sz c'), sOnes vs with
          | true, true, true => .ret (S.set o (.hole c' xs j vs))
          | _, _, _ => .no
      | _, _, _ => .no
    | _ => .no
  | _ => .no
def sDecs (C : Cod Θ) (c : Nat) : Nat -> List (SV Θ) -> Option (List (Θ c))
  | 0, cs => match cs with
    | [] => some []
    | _ :: _ => none
  | n + 1, cs => match C.dec c (cs.take (C.sz c)) with
    | some x => match sDecs C c n (cs.drop (C.sz c)) with
      | some xs => some (x :: xs)
      | none => none
    | none => none
def sDecsN (C : Cod Θ) (c : Nat) : Nat -> List (SV Θ) -> Option (List (Θ c))
  | 0, cs => match cs with
    | [] => some []
    | _ :: _ => none
  | n + 1, cs => match C.zer c (cs.take (C.sz c)) with
    | some x => match sDecsN C c n (cs.drop (C.sz c)) with
      | some xs => some (x :: xs)
      | none => none
    | none => none
def sSrc (C : Cod Θ) (S : SHeap Θ) (c : Nat) (x : SV Θ) : Cm (List (Θ c)) :=
  match x with
  | .v (.slice none 0 0) => .ret []
  | .z0 => .ret []
  | .lst c' xs => Cm.ofO (sCast c c' xs)
  | .sl c' o off len _ => match sNth S o with
    | some (.arr c'' xs) => match Nat.beq c' c'' with
      | true => match sCast c c'' xs with
        | some ys => .chk (off + len <= ys.length) (.ret ((ys.drop off).take len))
        | none => .no
      | false => .no
    | _ => .no
  | _ => .no
def sApp (S : SHeap Θ) (c bytes : Nat) (news : List (Θ c)) : SV Θ -> Cm (SV Θ × SHeap Θ)
  | .v (.slice none 0 0) => .chk (news.length * bytes <= LIM ∧ news.length <= LIM) (.ret (.sl c S.length 0 news.length none, S ++ [.arr c news]))
  | .z0 => .chk (news.length * bytes <= LIM ∧ news.length <= LIM) (.ret (.sl c S.length 0 news.length none, S ++ [.arr c news]))
  | .sl c' o 0 len _ => match Nat.beq c' c with
    | true => match sNth S o with
      | some (.arr c'' xs) => match Nat.beq c' c'' with
        | true => match sCast c c'' xs with
          | some ys => .chk (len = ys.length ∧ (len + news.length) * bytes <= LIM ∧ len + news.length <= LIM) (.ret (.sl c S.length 0 (ys ++ news).length none, S.set o .dead ++ [.arr c (ys ++ news)]))
          | none => .no
        | false => .no
      | _ => .no
    | false => .no
  | _ => .no
def cod8 : SV Θ -> Nat
  | .lst c _ => c
  | .sl c _ _ _ _ => c
  | _ => 0
def intOf : List (SV Θ) -> Int
  | [.i _ n] => n
  | _ => 0
def byteOf (l : List (SV Θ)) : UInt8 := UInt8.ofNat (intOf l).toNat
def sTag (S : SHeap Θ) (o e : Nat) : Bool :=
  match S with
  | [] => false
  | .tag q t :: r => match Nat.beq q o, Nat.beq t e with
    | true, true => true
    | _, _ => sTag r o e
  | _ :: r => sTag r o e
def blSl (S : SHeap Θ) (e : Nat) : SV Θ -> Option (SV Θ)
  | .bl c o len => match sTag S o e with
    | true => some (.sl c o 0 len none)
    | false => none
  | _ => none
def slBl : SV Θ -> SV Θ
  | .sl c o _ len _ => .bl c o len
  | _ => .any
def isBld : List AV -> Bool
  | [.v (.pointer none), .v (.slice none 0 0)] => true
  | _ => false
def sDataB (C : Cod Θ) (S : SHeap Θ) (e : Nat) : SV Θ -> Cm (SV Θ × SHeap Θ)
  | .bl c o len => match C.ty8 c, sTag S o e, sNth S o with
    | true, true, some (.arr c' xs) => match Nat.beq c c' with
      | true => .chk (len = xs.length) (.ret (.sd c o, S))
      | false => .no
    | _, _, _ => .no
  | _ => .no
def sUstr (C : Cod Θ) (S : SHeap Θ) (e : Nat) : SV Θ -> SV Θ -> Cm (SV Θ × SHeap Θ)
  | .sd c o, .i .i64 n => match C.ty8 c, sTag S o e, sNth S o with
    | true, true, some (.arr c' xs) => match Nat.beq c c' with
      | true => .chk (n = xs.length ∧ xs.length < 4611686018427387904) (.ret (.s (xs.map fun x => UInt8.ofNat (intOf (C.cells c' x)).toNat), S.set o .dead))
      | false => .no
    | _, _, _ => .no
  | _, _ => .no
open Classical in
noncomputable def mget {α β : Type} : List (α × β) -> α -> Option β
  | [], _ => none
  | p :: r, k => if p.1 = k then some p.2 else mget r k
open Classical in
noncomputable def mset {α β : Type} : List (α × β) -> α -> β -> List (α × β)
  | [], k, v => [(k, v)]
  | p :: r, k, v => if p.1 = k then (k, v) :: r else p :: mset r k v
open Classical in
noncomputable def mdel {α β : Type} : List (α × β) -> α -> List (α × β)
  | [], _ => []
  | p :: r, k => if p.1 = k then r else p :: mdel r k
noncomputable def mhas {α β : Type} (es : List (α × β)) (k : α) : Bool := (mget es k).isSome
def Cod.decE (C : Cod Θ) (c : Nat) (x : SV Θ) : Option (Θ c) :=
  match C.lay c with
  | some _ => match x with
    | .agg cs => C.dec c cs
    | _ => none
  | none => match x with
    | .agg _ => none
    | x => C.dec c [x]
def pairS (ok : Bool) (v : SV Θ) (b : Bool) : SV Θ :=
  match ok with
  | true => .tup [v, .kb b]
  | false => v
noncomputable def sY (C : Cod Θ) (h : Nat) (ρ : SEnv Θ) (S : SHeap Θ) : YOp -> Cm (SV Θ × SHeap Θ)
  | .mk => .ret (.mp S.length, S ++ [.map (h / 65536) (h % 65536) []])
  | .look ks agg ok z m k => match sev ρ m with
    | .mp o => match sNth S o with
      | some (.map c d es) => match C.kty c, C.decE c (sev ρ k) with
        | some ks', some key => match decide (ks = ks' ∧ agg = (C.lay c).isSome) with
          | true => .ite (mhas es key) (.get (mget es key) fun v => .ret (pairS ok (wrapS (C.lay d) (C.cells d v)) true, S)) (.ret (pairS ok (sofA z) false, S))
          | false => .no
        | _, _ => .no
      | _ => .no
    | _ => .no
  | .upd ks agg m k v => match sev ρ m with
    | .mp o => match sNth S o with
      | some (.map c d es) => match C.kty c, C.decE c (sev ρ k), C.decE d (sev ρ v) with
        | some ks', some key, some val => match decide (ks = ks' ∧ agg = (C.lay c).isSome) with
          | true => .ret (.v (.tuple #[]), S.set o (.map c d (mset es key val)))
          | false => .no
        | _, _, _ => .no
      | _ => .no
    | _ => .no
  | .del ks agg m k => match sev ρ m with
    | .mp o => match sNth S o with
      | some (.map c d es) => match C.kty c, C.decE c (sev ρ k) with
        | some ks', some key => match decide (ks = ks' ∧ agg = (C.lay c).isSome) with
          | true => .ret (.v (.tuple #[]), S.set o (.map c d (mdel es key)))
          | false => .no
        | _, _ => .no
      | _ => .no
    | _ => .no
  | .len m => match sev ρ m with
    | .mp o => match sNth S o with
      | some (.map c d es) => .ret (.i .i64 (es.length : Nat), S)
      | _ => .no
    | _ => .no
noncomputable def sM (C : Cod Θ) (h : Nat) (ρ : SEnv Θ) (S : SHeap Θ) : MOp -> Cm (SV Θ × SHeap Θ)
  | .ext (.map y) => sY C h ρ S y
  | .ext (.ident x) => .ret (sev ρ x, S)
  | .ext (.clear sz zs x) => match sev ρ x with
    | .sl c o off len _ => match Nat.beq (C.sz c) sz, sNth S o, C.dec c (sofA.sofL zs) with
      | true, some (.arr c' xs), some z => match sCast c c' xs with
        | some ys => .chk (off + len <= ys.length) (.ret (.v (.tuple #[]), S.set o (.arr c (ys.take off ++ (List.replicate len z ++ ys.drop (off + len))))))
        | none => .no
      | _, _, _ => .no
    | _ => .no
  | .ext (.allocT e zs) => match isBld zs with
    | true => .ret (.ptr (S.length + 1) 0, S ++ [.arr h []] ++ [.box [.self (S.length + 1), .bl h S.length 0]] ++ [.tag (S.length + 1) e] ++ [.tag S.length h])
    | false => .no
  | .ext (.appendT e x y) => match sev ρ y, C.ty8 h, blSl S e (sev ρ x) with
    | .s l, true, some z => (sApp S h 1 (l.filterMap fun b => C.dec h [.i .u8 (b.toNat : Int)]) z).bind fun r => .ret (slBl r.1, r.2 ++ [.tag S.length e])
    | _, _, _ => .no
  | .ext (.sdata x) => sDataB C S h (sev ρ x)
  | .ext (.ustr e x n) => sUstr C S e (sev ρ x) (sev ρ n)
  | .load l x => (sLoad C S l (sev ρ x)).bind fun v => .ret (v, S)
  | .alloc zs => .ret (.ptr S.length 0, S ++ [.box (sofA.sofL zs)])
  | .box x => match (sev ρ x).flat with
    | some cs => .ret (.ptr S.length 0, S ++ [.box cs])
    | none => .no
  | .buildSlice sz len zs parts => match Nat.beq (C.sz h) sz, sFill (sofA.sofL zs) (sParts ρ parts) with
    | true, some cs => match sDecs C h len cs with
      | some xs => .ret (.sl h S.length 0 len none, S ++ [.arr h xs])
      | none => match sDecsN C h len cs, Nat.ble 1 len with
        | some xs, true => .ret (.sl h S.length 0 len none, S ++ [.raw h xs])
        | _, _ => .no
    | _, _ => .no
  | .mkSlice sz bytes zs len cap => match sev ρ len, sev ρ cap, Nat.beq (C.sz h) sz, C.dec h (sofA.sofL zs) with
    | .i _ n, .i _ c, true, some z => .chk (0 <= n ∧ n <= c ∧ c * (bytes : Int) <= 281474976710656) (.ret (.sl h S.length 0 (List.replicate n.toNat z).length none, S ++ [.arr h (List.replicate n.toNat z)]))
    | .i _ n, .i _ c, true, none => match C.zer h (sofA.sofL zs) with
      | some z => .chk (0 < n ∧ n <= c ∧ c * (bytes : Int) <= 281474976710656) (.ret (.sl h S.length 0 (List.replicate n.toNat z).length none, S ++ [.raw h (List.replicate n.toNat z)]))
      | none => .no
    | _, _, _, _ => .no
  | .store l x y => match (sev ρ y).flat with
    | some vs => (sStore C S l vs (sev ρ x)).bind fun S' => .ret (.v (.tuple #[]), S')
    | none => .no
  | .append sz bytes x y => match Nat.beq (C.sz h) sz, Nat.blt 0 sz with
    | true, true => (sSrc C S h (sev ρ y)).bind fun news => sApp S h bytes news (sev ρ x)
    | _, _ => .no
  | .copy sz x y => match sev ρ x with
    | .sl c o off len _ => match Nat.beq (C.sz c) sz with
      | true => (sSrc C S c (sev ρ y)).bind fun news => match sNth S o with
        | some (.arr c' xs) => match sCast c c' xs with
          | some ys => .chk (off + len <= ys.length) (.ret (.i .i64 (min news.length len : Nat), S.set o (.arr c (ys.take off ++ (news.take (min news.length len) ++ ys.drop (off + min news.length len))))))
          | none => .no
        | _ => .no
      | false => .no
    | _ => .no
  | .b2s x => match sev ρ x with
    | .v (.slice none 0 0) => .ret (.s [], S)
    | .z0 => .ret (.s [], S)
    | y => match C.ty8 (cod8 y) with
      | true => (sSrc C S (cod8 y) y).bind fun xs => .ret (.s (xs.map fun x => UInt8.ofNat (intOf (C.cells (cod8 y) x)).toNat), S)
      | false => .no
  | .s2b x => match sev ρ x, C.ty8 h, C.lay h with
    | .s l, true, none => .ret (.lst h (l.filterMap fun b => C.dec h [.i .u8 (b.toNat : Int)]), S)
    | _, _, _ => .no
  | .appendStr x y => match sev ρ y, C.ty8 h with
    | .s l, true => sApp S h 1 (l.filterMap fun b => C.dec h [.i .u8 (b.toNat : Int)]) (sev ρ x)
    | _, _ => .no
  | _ => .no
section
variable {C : Cod Θ} {ι : Emb} {A : Base} {S : SHeap Θ} {H : Heap}
theorem sOne_av {x : SV Θ} {a : AV} (h : RV C ι x a) (h1 : sOne x = true) : AV.one a = true := by
  cases h with
  | v x => cases x <;> first | rfl | simp [sOne] at h1
  | slNil ho hc ha => rcases ha with rfl | rfl <;> rfl
  | _ => first | rfl | simp [sOne] at h1
theorem sOnes_av : ∀ {xs : List (SV Θ)} {as : List AV}, RVs C ι xs as -> sOnes xs = true -> as.all AV.one = true := by
  intro xs
  induction xs with
  | nil => intro as h _; rw [h.unnil]; rfl
  | cons x xs ih =>
    intro as h h1
    obtain ⟨a, bs, rfl, ha, hb⟩ := h.uncons
    simp only [sOnes] at h1
    split at h1
    · rename_i hx; simp [sOne_av ha hx]; simpa using ih hb h1
    · cases h1
theorem sSets_rv : ∀ {vs : List (SV Θ)} {as : List AV} {cs : List (SV Θ)} {ds : List AV} {off : Nat}, RVs C ι cs ds -> RVs C ι vs as -> RVs C ι (sSets cs off vs) (setsA ds off as) := by
  intro vs
  induction vs with
  | nil => intro as cs ds off h h1; rw [h1.unnil]; exact h
  | cons v vs ih =>
    intro as cs ds off h h1
    obtain ⟨a, bs, rfl, ha, hb⟩ := h1.uncons
    exact ih (h.set off ha) hb
theorem setsA_app : ∀ (vs as bs cs : List AV) (off : Nat), off + vs.length <= bs.length -> setsA (as ++ (bs ++ cs)) (as.length + off) vs = as ++ (setsA bs off vs ++ cs) := by
  intro vs
  induction vs with
  | nil => intro as bs cs off h; rfl
  | cons v vs ih =>
    intro as bs cs off h
    simp only [List.length_cons] at h
    simp only [setsA]
    have e : (as ++ (bs ++ cs)).set (as.length + off) v = as ++ (bs.set off v ++ cs) := by
      rw [List.set_append_right _ _ (by omega), show as.length + off - as.length = off by omega, List.set_append_left _ _ (by omega)]
    rw [e, show as.length + off + 1 = as.length + (off + 1) by omega]
    exact ih as (bs.set off v) cs (off + 1) (by simp; omega)
theorem flat_nil (c : Nat) : C.flat c [] = [] := rfl
theorem flat_cons (c : Nat) (x : Θ c) (xs : List (Θ c)) : C.flat c (x :: xs) = C.avs c x ++ C.flat c xs := rfl
theorem flat_append (c : Nat) (xs ys : List (Θ c)) : C.flat c (xs ++ ys) = C.flat c xs ++ C.flat c ys := by simp [Cod.flat]
theorem flat_length (ok : CodOk C) {c : Nat} (xs : List (Θ c)) : (C.flat c xs).length = xs.length * C.sz c := by
  induction xs with
  | nil => simp [flat_nil]
  | cons x xs ih => rw [flat_cons, List.length_append, ih, ok.len, List.length_cons, Nat.add_mul]; omega
theorem flat_take (ok : CodOk C) {c : Nat} (xs : List (Θ c)) (n : Nat) (hn : n <= xs.length) (ext : List AV) : (C.flat c xs ++ ext).take (n * C.sz c) = C.flat c (xs.take n) := by
  have e : C.flat c xs = C.flat c (xs.take n) ++ C.flat c (xs.drop n) := by rw [<- flat_append, List.take_append_drop]
  have hl : (C.flat c (xs.take n)).length = n * C.sz c := by rw [flat_length ok]; simp; rw [Nat.min_eq_left hn]
  rw [e, List.append_assoc, List.take_append_of_le_length (by omega), List.take_of_length_le (by omega)]
theorem flat_drop (ok : CodOk C) {c : Nat} (xs : List (Θ c)) (n : Nat) (hn : n <= xs.length) (ext : List AV) : (C.flat c xs ++ ext).drop (n * C.sz c) = C.flat c (xs.drop n) ++ ext := by
  have e : C.flat c xs = C.flat c (xs.take n) ++ C.flat c (xs.drop n) := by rw [<- flat_append, List.take_append_drop]
  have hl : (C.flat c (xs.take n)).length = n * C.sz c := by rw [flat_length ok]; simp; rw [Nat.min_eq_left hn]
  rw [e, List.append_assoc, List.drop_append_of_le_length (by omega), List.drop_of_length_le (by omega), List.nil_append]
theorem get_split {α : Type} {xs : List α} {j : Nat} {y : α} (h : xs[j]? = some y) : xs = xs.take j ++ (y :: xs.drop (j + 1)) := by
  have hj := getElem?_lt h
  have : xs[j] = y := by rw [List.getElem?_eq_getElem hj] at h; exact Option.some.inj h
  rw [<- this, <- List.drop_eq_getElem_cons hj, List.take_append_drop]
theorem flat_split (ok : CodOk C) {c : Nat} {xs : List (Θ c)} {j : Nat} {y : Θ c} (h : xs[j]? = some y) (ext : List AV) :
    ∃ as bs, C.flat c xs ++ ext = as ++ (C.avs c y ++ bs) ∧ as.length = j * C.sz c ∧ ∀ y', C.flat c (xs.set j y') ++ ext = as ++ (C.avs c y' ++ bs) := by
  have hj := getElem?_lt h
  have e := get_split h
  refine ⟨C.flat c (xs.take j), C.flat c (xs.drop (j + 1)) ++ ext, ?_, by rw [flat_length ok]; simp; rw [Nat.min_eq_left (by omega)], fun y' => ?_⟩
  · conv => lhs; rw [e]
    rw [flat_append, flat_cons]; simp
  · have : xs.set j y' = xs.take j ++ (y' :: xs.drop (j + 1)) := by
      rw [List.set_eq_take_append_cons_drop, if_pos hj]
    rw [this, flat_append, flat_cons]; simp
theorem flat_split' (ok : CodOk C) {c : Nat} {xs : List (Θ c)} {j : Nat} {y : Θ c} (h : xs[j]? = some y) (ext : List AV) :
    C.flat c xs ++ ext = C.flat c (xs.take j) ++ (C.avs c y ++ (C.flat c (xs.drop (j + 1)) ++ ext)) ∧ (C.flat c (xs.take j)).length = j * C.sz c := by
  have hj := getElem?_lt h
  refine ⟨?_, by rw [flat_length ok]; simp; rw [Nat.min_eq_left (by omega)]⟩
  conv => lhs; rw [get_split h]
  rw [flat_append, flat_cons]; simp
theorem hole_other (ok : CodOk C) {c : Nat} {xs : List (Θ c)} {i j : Nat} {y : Θ c} (h : xs[i]? = some y) (hne : i ≠ j) (hj : j < xs.length) {ins : List AV} (hi : ins.length = C.sz c) (ext : List AV) :
    ∃ as bs, C.flat c (xs.take j) ++ (ins ++ (C.flat c (xs.drop (j + 1)) ++ ext)) = as ++ (C.avs c y ++ bs) ∧ as.length = i * C.sz c := by
  have hil := getElem?_lt h
  rcases Nat.lt_or_ge i j with h1 | h1
  · obtain ⟨e1, e2⟩ := flat_split' ok (c := c) (xs := xs.take j) (j := i) (y := y) (by rw [List.getElem?_take_of_lt h1]; exact h) (ins ++ (C.flat c (xs.drop (j + 1)) ++ ext))
    exact ⟨_, _, e1, e2⟩
  · obtain ⟨e1, e2⟩ := flat_split' ok (c := c) (xs := xs.drop (j + 1)) (j := i - (j + 1)) (y := y) (by rw [List.getElem?_drop]; rw [<- h]; congr 1; omega) ext
    refine ⟨C.flat c (xs.take j) ++ (ins ++ C.flat c ((xs.drop (j + 1)).take (i - (j + 1)))), _, by rw [e1]; simp only [List.append_assoc]; rfl, ?_⟩
    rw [List.length_append, List.length_append, e2, hi, flat_length ok, List.length_take, Nat.min_eq_left (by omega)]
    have : i = j + 1 + (i - (j + 1)) := by omega
    conv => rhs; rw [this]
    rw [Nat.add_mul, Nat.add_mul]; omega
theorem part_split {l : Option Nat} {as bs cs : List AV} {off : Nat} (h : off + laySize l <= bs.length) (hp : 0 < laySize l ∨ l.isSome = true) : partA l (as ++ (bs ++ cs)) (as.length + off) = partA l bs off := by
  cases l with
  | some n =>
    simp only [laySize] at h
    simp only [partA]
    rw [if_pos (by simp; omega), if_pos h]
    congr 2
    rw [<- List.drop_drop, List.drop_left, List.drop_append_of_le_length (by omega), List.take_append_of_le_length (by simp; omega)]
  | none =>
    simp only [laySize] at h
    simp only [partA]
    rw [List.getElem?_append_right (by omega), List.getElem?_append_left (by omega)]
    congr 1; omega
theorem tagged_of {H : Heap} {i o : Nat} {e : TypeId} (h : H[i]? = some (.tag o e)) : tagged H o e = true := by
  unfold tagged
  rw [List.any_eq_true]
  exact ⟨_, List.mem_of_getElem? h, by simp⟩
theorem tagged_get' {H : Heap} {o : Nat} {e : TypeId} (h : tagged H o e = true) : ∃ p : Nat, H[p]? = some (AObj.tag o e) := by
  unfold tagged at h
  rw [List.any_eq_true] at h
  obtain ⟨x, hx, h⟩ := h
  obtain ⟨i, hi, rfl⟩ := List.getElem_of_mem hx
  refine ⟨i, ?_⟩
  rw [List.getElem?_eq_getElem hi]
  split at h
  · rename_i o' e' he
    simp only [Bool.and_eq_true] at h
    rw [he, Nat.eq_of_beq_eq_true h.1, Nat.eq_of_beq_eq_true h.2]
  · cases h
theorem tagged_push {H : Heap} {o : Nat} {e : TypeId} (h : tagged H o e = true) (y : AObj) : tagged (H ++ [y]) o e = true := by
  obtain ⟨p, hp⟩ := tagged_get' h
  exact tagged_of (i := p) (by rw [List.getElem?_append_left (getElem?_lt hp)]; exact hp)
def NT (y : AObj) : Prop := ∀ (o : Nat) (t : TypeId), y ≠ .tag o t
theorem RObj.nt {x : SO Θ} {y : AObj} (h : RObj C ι x y) : NT y := by cases h <;> (intro o t h; cases h)
theorem NT.cells (cs : List AV) : NT (.cells cs) := fun o t h => by cases h
theorem tagged_set {H : Heap} {o p : Nat} {e : TypeId} (h : tagged H o e = true) {z : AObj} (hc : H[p]? = some z) (hn : NT z) (y : AObj) : tagged (H.set p y) o e = true := by
  obtain ⟨i, hi⟩ := tagged_get' h
  have : p ≠ i := fun e => by subst e; rw [hc] at hi; exact hn _ _ (Option.some.inj hi)
  exact tagged_of (i := i) (by rw [List.getElem?_set_ne this]; exact hi)
theorem RObj.notag {x : SO Θ} {y : AObj} (h : RObj C ι x y) (q : Nat) (t : TypeId) : x ≠ .tag q t := by cases h <;> simp
def NE (x0 x : SO Θ) : Prop := ∀ (c : Nat) (xs : List (Θ c)), x = .arr c xs -> xs = [] -> ∃ (c' : Nat), x0 = .arr c' []
theorem NE.use {x0 x : SO Θ} (h : NE x0 x) (h0 : ∀ (c : Nat) (xs : List (Θ c)), x0 = .arr c xs -> xs ≠ []) : ∀ (c : Nat) (xs : List (Θ c)), x = .arr c xs -> xs ≠ [] := by
  intro c xs hx he
  obtain ⟨c', hc⟩ := h c xs hx he
  exact h0 c' [] hc rfl
theorem NE.box {x0 : SO Θ} {cs : List (SV Θ)} : NE x0 (.box cs) := fun c xs h => by cases h
theorem RH.get (r : RH C A ι S H) {o p : Nat} {x : SO Θ} (ho : ι[o]? = some (some p)) (hx : sNth S o = some x) (hd : x ≠ .dead) : ∃ y, H[p]? = some y ∧ RObj C ι x y := by
  rw [nth_get] at hx
  rcases r.obj o p x ho hx with h | h
  · exact absurd h hd
  · exact h
theorem getS_push {S : SHeap Θ} {x y : SO Θ} {o : Nat} (h : (S ++ [x])[o]? = some y) : (o < S.length ∧ S[o]? = some y) ∨ (o = S.length ∧ x = y) := by
  rcases Nat.lt_trichotomy o S.length with h' | h' | h'
  · rw [List.getElem?_append_left h'] at h; exact .inl ⟨h', h⟩
  · subst h'; simp at h; exact .inr ⟨rfl, h⟩
  · have := getElem?_lt h; simp at this; omega
theorem getS_set {S : SHeap Θ} {x y : SO Θ} {o o' : Nat} (h : (S.set o x)[o']? = some y) : (o' = o ∧ x = y) ∨ (o' ≠ o ∧ S[o']? = some y) := by
  by_cases e : o' = o
  · subst e
    have := getElem?_lt h
    simp at this
    rw [List.getElem?_set_self this] at h
    exact .inl ⟨rfl, Option.some.inj h⟩
  · rw [List.getElem?_set_ne (Ne.symm e)] at h; exact .inr ⟨e, h⟩
theorem RH.push (r : RH C A ι S H) {x : SO Θ} {y : AObj} (h : RObj C (ι ++ [some H.length]) x y) : RH C A (ι ++ [some H.length]) (S ++ [x]) (H ++ [y]) := by
  have hl := r.len
  have cases' : ∀ {o : Nat} {q : Option Nat}, (ι ++ [some H.length])[o]? = some q -> (o < ι.length ∧ ι[o]? = some q) ∨ (o = ι.length ∧ q = some H.length) := by
    intro o q ho
    rcases Nat.lt_trichotomy o ι.length with h1 | h1 | h1
    · rw [List.getElem?_append_left h1] at ho; exact .inl ⟨h1, ho⟩
    · subst h1; simp at ho; exact .inr ⟨rfl, ho.symm⟩
    · have := getElem?_lt ho; simp at this; omega
  refine ⟨by simp [hl], fun o p ho => ?_, fun o o' p h1 h2 => ?_, fun o p z ho hz => ?_, fun o z ho hz => ?_, fun j q t hj => ?_, fun o p ho => ?_, by simp; have := r.big; omega, fun p hp hm => ?_, fun i x hi => Emb.ext (r.rts i x hi)⟩
  · rcases cases' ho with ⟨_, h1⟩ | ⟨_, h1⟩
    · have := r.lt o p h1; simp; omega
    · cases h1; simp
  · rcases cases' h1 with ⟨a1, b1⟩ | ⟨a1, b1⟩ <;> rcases cases' h2 with ⟨a2, b2⟩ | ⟨a2, b2⟩
    · rcases r.inj o o' p b1 b2 with h | h | h
      · exact .inl h
      · exact .inr (.inl (by rw [List.getElem?_append_left (by omega)]; exact h))
      · exact .inr (.inr (by rw [List.getElem?_append_left (by omega)]; exact h))
    · cases b2; have := r.lt o _ b1; omega
    · cases b1; have := r.lt o' _ b2; omega
    · exact .inl (by omega)
  · rcases cases' ho with ⟨h1, h2⟩ | ⟨h1, h2⟩
    · rw [List.getElem?_append_left (by omega)] at hz
      rcases r.obj o p z h2 hz with h3 | ⟨y', h3, h4⟩
      · exact .inl h3
      · exact .inr ⟨y', by rw [List.getElem?_append_left (r.lt o p h2)]; exact h3, h4.mono _⟩
    · cases h2
      subst h1
      rw [hl, List.getElem?_append_right (Nat.le_refl _)] at hz
      simp at hz; subst hz
      exact .inr ⟨y, by simp, h⟩
  · rcases cases' ho with ⟨h1, h2⟩ | ⟨h1, h2⟩
    · rw [List.getElem?_append_left (by omega)] at hz; exact r.nil o z h2 hz
    · cases h2
  · rcases getS_push hj with ⟨h1, h2⟩ | ⟨h1, h2⟩
    · obtain ⟨k0, k⟩ := r.tg j q t h2
      refine ⟨by simp; omega, fun p hp => ?_⟩
      rcases cases' hp with ⟨h3, h4⟩ | ⟨h3, h4⟩
      · obtain ⟨k1, k2⟩ := k p h4
        exact ⟨tagged_push k1 y, fun c xs hx => k2 c xs (by rw [List.getElem?_append_left (by omega)] at hx; exact hx)⟩
      · omega
    · exact absurd h2 (h.notag q t)
  · rcases cases' ho with ⟨h1, h2⟩ | ⟨h1, h2⟩
    · exact r.own o p h2
    · cases h2; exact .inl r.big
  · rw [List.getElem?_append_left (by have := r.big; omega)]; exact r.base p hp hm
theorem RH.pushN (r : RH C A ι S H) {x : SO Θ} (hx : (∃ c, x = .arr c []) ∨ ∃ q t, x = .tag q t ∧ q < S.length ∧ ∀ p, ι[q]? = some (some p) -> tagged H p t = true ∧ ∀ (c : Nat) (xs : List (Θ c)), S[q]? = some (.arr c xs) -> xs ≠ []) :
    RH C A (ι ++ [none]) (S ++ [x]) H := by
  have hl := r.len
  have cases' : ∀ {o : Nat} {q : Option Nat}, (ι ++ [none])[o]? = some q -> (o < ι.length ∧ ι[o]? = some q) ∨ (o = ι.length ∧ q = none) := by
    intro o q ho
    rcases Nat.lt_trichotomy o ι.length with h1 | h1 | h1
    · rw [List.getElem?_append_left h1] at ho; exact .inl ⟨h1, ho⟩
    · subst h1; simp at ho; exact .inr ⟨rfl, ho.symm⟩
    · have := getElem?_lt ho; simp at this; omega
  refine ⟨by simp [hl], fun o p ho => ?_, fun o o' p h1 h2 => ?_, fun o p z ho hz => ?_, fun o z ho hz => ?_, fun j q t hj => ?_, fun o p ho => ?_, r.big, r.base, fun i x hi => Emb.ext (r.rts i x hi)⟩
  · rcases cases' ho with ⟨_, h1⟩ | ⟨_, h1⟩
    · exact r.lt o p h1
    · cases h1
  · rcases cases' h1 with ⟨a1, b1⟩ | ⟨a1, b1⟩
    · rcases cases' h2 with ⟨a2, b2⟩ | ⟨a2, b2⟩
      · rcases r.inj o o' p b1 b2 with h | h | h
        · exact .inl h
        · exact .inr (.inl (by rw [List.getElem?_append_left (by omega)]; exact h))
        · exact .inr (.inr (by rw [List.getElem?_append_left (by omega)]; exact h))
      · cases b2
    · cases b1
  · rcases cases' ho with ⟨h1, h2⟩ | ⟨h1, h2⟩
    · rw [List.getElem?_append_left (by omega)] at hz
      rcases r.obj o p z h2 hz with h3 | ⟨y', h3, h4⟩
      · exact .inl h3
      · exact .inr ⟨y', h3, h4.mono _⟩
    · cases h2
  · rcases cases' ho with ⟨h1, h2⟩ | ⟨h1, h2⟩
    · rw [List.getElem?_append_left (by omega)] at hz; exact r.nil o z h2 hz
    · subst h1
      rw [hl, List.getElem?_append_right (Nat.le_refl _)] at hz
      simp at hz
      subst hz
      rcases hx with h | ⟨q, t, h, _⟩
      · exact .inr (.inl h)
      · exact .inr (.inr ⟨q, t, h⟩)
  · have old : ∀ {q : Nat}, q < S.length -> (∀ p, ι[q]? = some (some p) -> tagged H p t = true ∧ ∀ (c : Nat) (xs : List (Θ c)), S[q]? = some (.arr c xs) -> xs ≠ []) ->
        q < (S ++ [x]).length ∧ ∀ p, (ι ++ [none])[q]? = some (some p) -> tagged H p t = true ∧ ∀ (c : Nat) (xs : List (Θ c)), (S ++ [x])[q]? = some (.arr c xs) -> xs ≠ [] := by
      intro q k0 k
      refine ⟨by simp; omega, fun p hp => ?_⟩
      rw [List.getElem?_append_left (by omega)] at hp
      obtain ⟨k1, k2⟩ := k p hp
      exact ⟨k1, fun c xs hx => k2 c xs (by rw [List.getElem?_append_left k0] at hx; exact hx)⟩
    rcases getS_push hj with ⟨h1, h2⟩ | ⟨h1, h2⟩
    · obtain ⟨k0, k⟩ := r.tg j q t h2
      exact old k0 k
    · rcases hx with ⟨c, h⟩ | ⟨q', t', h, k0, k⟩
      · rw [h] at h2; cases h2
      · rw [h] at h2; cases h2; exact old k0 k
  · rcases cases' ho with ⟨h1, h2⟩ | ⟨h1, h2⟩
    · exact r.own o p h2
    · cases h2
theorem RH.pushNil (r : RH C A ι S H) (c : Nat) : RH C A (ι ++ [none]) (S ++ [.arr c []]) H := r.pushN (.inl ⟨c, rfl⟩)
theorem RH.set (r : RH C A ι S H) {o p : Nat} (ho : ι[o]? = some (some p)) {x x0 : SO Θ} {y : AObj} (h0 : S[o]? = some x0) (hd : x0 ≠ .dead) (h : RObj C ι x y) (hne : NE x0 x) : RH C A ι (S.set o x) (H.set p y) := by
  have hplt := r.lt o p ho
  obtain ⟨y0', hcs0, hnt0⟩ : ∃ y, H[p]? = some y ∧ NT y := by
    rcases r.obj o p x0 ho h0 with h1 | ⟨y0, h1, h2⟩
    · exact absurd h1 hd
    · exact ⟨y0, h1, h2.nt⟩
  have other : ∀ {o' : Nat} {z : SO Θ}, o' ≠ o -> ι[o']? = some (some p) -> (S.set o x)[o']? = some z -> z = .dead := by
    intro o' z hne h1 h2
    rw [List.getElem?_set_ne (Ne.symm hne)] at h2
    rcases r.inj o' o p h1 ho with h | h | h
    · exact absurd h hne
    · rw [h2] at h; exact Option.some.inj h
    · rw [h0] at h; exact absurd (Option.some.inj h) hd
  refine ⟨by simp [r.len], fun o' p' h1 => by simpa using r.lt o' p' h1, fun o1 o2 q h1 h2 => ?_, fun o' p' z h1 h2 => ?_, fun o' z h1 h2 => ?_, fun j q t hj => ?_, r.own, by simpa using r.big, fun q hq hm => ?_, r.rts⟩
  · rcases r.inj o1 o2 q h1 h2 with h' | h' | h'
    · exact .inl h'
    · by_cases e : o1 = o
      · subst e; rw [h0] at h'; exact absurd (Option.some.inj h') hd
      · exact .inr (.inl (by rw [List.getElem?_set_ne (Ne.symm e)]; exact h'))
    · by_cases e : o2 = o
      · subst e; rw [h0] at h'; exact absurd (Option.some.inj h') hd
      · exact .inr (.inr (by rw [List.getElem?_set_ne (Ne.symm e)]; exact h'))
  · by_cases e : o' = o
    · subst e
      rw [ho] at h1; cases h1
      rw [List.getElem?_set_self (getElem?_lt h0)] at h2; cases h2
      exact .inr ⟨y, by rw [List.getElem?_set_self hplt], h⟩
    · by_cases e2 : p' = p
      · subst e2; exact .inl (other e h1 h2)
      · rw [List.getElem?_set_ne (Ne.symm e)] at h2
        rcases r.obj o' p' z h1 h2 with h3 | ⟨y', h3, h4⟩
        · exact .inl h3
        · exact .inr ⟨y', by rw [List.getElem?_set_ne (Ne.symm e2)]; exact h3, h4⟩
  · by_cases e : o' = o
    · subst e; rw [ho] at h1; cases h1
    · rw [List.getElem?_set_ne (Ne.symm e)] at h2; exact r.nil o' z h1 h2
  · rcases getS_set hj with ⟨_, h2⟩ | ⟨_, h2⟩
    · exact absurd h2 (h.notag q t)
    · obtain ⟨k0, k⟩ := r.tg j q t h2
      refine ⟨by simpa using k0, fun p' hp => ?_⟩
      obtain ⟨k1, k2⟩ := k p' hp
      refine ⟨tagged_set k1 hcs0 hnt0 y, fun c xs hx => ?_⟩
      rcases getS_set hx with ⟨e, h3⟩ | ⟨_, h3⟩
      · subst e; exact hne.use (fun c xs hx => k2 c xs (by rw [h0, hx])) c xs h3
      · exact k2 c xs h3
  · have : p ≠ q := by
      intro e; subst e
      rcases r.own o p ho with h' | h'
      · omega
      · exact hm h'
    rw [List.getElem?_set_ne this]; exact r.base q hq hm
theorem RH.kill (r : RH C A ι S H) (o : Nat) : RH C A ι (S.set o .dead) H := by
  refine ⟨by simp [r.len], r.lt, fun o1 o2 q h1 h2 => ?_, fun o' p' z h1 h2 => ?_, fun o' z h1 h2 => ?_, fun j q t hj => ?_, r.own, r.big, r.base, r.rts⟩
  · have dead : ∀ {o' : Nat}, o' < S.length -> S[o']? = some SO.dead -> (S.set o .dead)[o']? = some SO.dead := by
      intro o' hlt hd
      by_cases e : o' = o
      · subst e; rw [List.getElem?_set_self hlt]
      · rw [List.getElem?_set_ne (Ne.symm e)]; exact hd
    rcases r.inj o1 o2 q h1 h2 with h' | h' | h'
    · exact .inl h'
    · exact .inr (.inl (dead (getElem?_lt h') h'))
    · exact .inr (.inr (dead (getElem?_lt h') h'))
  · rcases getS_set h2 with ⟨_, rfl⟩ | ⟨_, h2⟩
    · exact .inl rfl
    · exact r.obj o' p' z h1 h2
  · rcases getS_set h2 with ⟨_, rfl⟩ | ⟨_, h2⟩
    · exact .inl rfl
    · exact r.nil o' z h1 h2
  · rcases getS_set hj with ⟨_, h2⟩ | ⟨_, h2⟩
    · cases h2
    · obtain ⟨k0, k⟩ := r.tg j q t h2
      refine ⟨by simpa using k0, fun p' hp => ?_⟩
      obtain ⟨k1, k2⟩ := k p' hp
      refine ⟨k1, fun c xs hx => ?_⟩
      rcases getS_set hx with ⟨_, h3⟩ | ⟨_, h3⟩
      · cases h3
      · exact k2 c xs h3
theorem RH.drop (r : RH C A ι S H) {o p : Nat} (ho : ι[o]? = some (some p)) (h0 : S[o]? = some .dead) (hn : ∀ o', o' ≠ o -> ι[o']? = some (some p) -> S[o']? = some .dead) {cs : List AV} (hc : H[p]? = some (.cells cs)) (y : AObj) : RH C A ι S (H.set p y) := by
  refine ⟨r.len, fun o' p' h1 => by simpa using r.lt o' p' h1, r.inj, fun o' p' z h1 h2 => ?_, r.nil, fun j q t hj => ?_, r.own, by simpa using r.big, fun q hq hm => ?_, r.rts⟩
  · by_cases e2 : p' = p
    · subst e2
      by_cases e : o' = o
      · subst e; rw [h0] at h2; exact .inl (Option.some.inj h2).symm
      · have := hn o' e h1; rw [this] at h2; exact .inl (Option.some.inj h2).symm
    · rcases r.obj o' p' z h1 h2 with h3 | ⟨y', h3, h4⟩
      · exact .inl h3
      · exact .inr ⟨y', by rw [List.getElem?_set_ne (Ne.symm e2)]; exact h3, h4⟩
  · obtain ⟨k0, k⟩ := r.tg j q t hj
    exact ⟨k0, fun p' hp => ⟨tagged_set (k p' hp).1 hc (NT.cells _) y, (k p' hp).2⟩⟩
  · have : p ≠ q := by
      intro e; subst e
      rcases r.own o p ho with h' | h'
      · omega
      · exact hm h'
    rw [List.getElem?_set_ne this]; exact r.base q hq hm
theorem RH.again (r : RH C A ι S H) {o p : Nat} (ho : ι[o]? = some (some p)) {x0 : SO Θ} (h0 : S[o]? = some x0) (hd : x0 ≠ .dead) {x : SO Θ} {y : AObj} (h : RObj C (ι ++ [some p]) x y) : RH C A (ι ++ [some p]) (S.set o .dead ++ [x]) (H.set p y) := by
  have hl := r.len
  have hplt := r.lt o p ho
  obtain ⟨y0', hcs0, hnt0⟩ : ∃ y, H[p]? = some y ∧ NT y := by
    rcases r.obj o p x0 ho h0 with h1 | ⟨y0, h1, h2⟩
    · exact absurd h1 hd
    · exact ⟨y0, h1, h2.nt⟩
  have cases' : ∀ {o : Nat} {q : Option Nat}, (ι ++ [some p])[o]? = some q -> (o < ι.length ∧ ι[o]? = some q) ∨ (o = ι.length ∧ q = some p) := by
    intro o q ho
    rcases Nat.lt_trichotomy o ι.length with h1 | h1 | h1
    · rw [List.getElem?_append_left h1] at ho; exact .inl ⟨h1, ho⟩
    · subst h1; simp at ho; exact .inr ⟨rfl, ho.symm⟩
    · have := getElem?_lt ho; simp at this; omega
  have hS : ∀ {o' : Nat}, o' < ι.length -> (S.set o .dead ++ [x])[o']? = (S.set o .dead)[o']? := fun h1 => by rw [List.getElem?_append_left (by simp; omega)]
  have r1 := r.kill o
  have deadp : ∀ {o' : Nat}, o' < ι.length -> ι[o']? = some (some p) -> (S.set o .dead)[o']? = some .dead := by
    intro o' hlt h1
    by_cases e : o' = o
    · subst e; rw [List.getElem?_set_self (by omega)]
    · rw [List.getElem?_set_ne (Ne.symm e)]
      rcases r.inj o' o p h1 ho with h' | h' | h'
      · exact absurd h' e
      · exact h'
      · rw [h0] at h'; exact absurd (Option.some.inj h') hd
  refine ⟨by simp [hl], fun o' p' h1 => ?_, fun o1 o2 q h1 h2 => ?_, fun o' p' z h1 h2 => ?_, fun o' z h1 h2 => ?_, fun j q t hj => ?_, fun o' p' h1 => ?_, by simpa using r.big, fun q hq hm => ?_, fun i x hi => Emb.ext (r.rts i x hi)⟩
  · rcases cases' h1 with ⟨_, h1⟩ | ⟨_, h1⟩
    · simpa using r.lt o' p' h1
    · cases h1; simpa using hplt
  · rcases cases' h1 with ⟨a1, b1⟩ | ⟨a1, b1⟩ <;> rcases cases' h2 with ⟨a2, b2⟩ | ⟨a2, b2⟩
    · rcases r1.inj o1 o2 q b1 b2 with h' | h' | h'
      · exact .inl h'
      · exact .inr (.inl (by rw [hS a1]; exact h'))
      · exact .inr (.inr (by rw [hS a2]; exact h'))
    · cases b2; exact .inr (.inl (by rw [hS a1]; exact deadp a1 b1))
    · cases b1; exact .inr (.inr (by rw [hS a2]; exact deadp a2 b2))
    · exact .inl (by omega)
  · rcases cases' h1 with ⟨a1, b1⟩ | ⟨a1, b1⟩
    · rw [hS a1] at h2
      by_cases e2 : p' = p
      · subst e2; rw [deadp a1 b1] at h2; exact .inl (Option.some.inj h2).symm
      · rcases r1.obj o' p' z b1 h2 with h3 | ⟨y', h3, h4⟩
        · exact .inl h3
        · exact .inr ⟨y', by rw [List.getElem?_set_ne (Ne.symm e2)]; exact h3, h4.mono _⟩
    · cases b1
      subst a1
      rw [hl, List.getElem?_append_right (by simp)] at h2
      simp at h2; subst h2
      exact .inr ⟨y, by rw [List.getElem?_set_self hplt], h⟩
  · rcases cases' h1 with ⟨a1, b1⟩ | ⟨a1, b1⟩
    · rw [hS a1] at h2; exact r1.nil o' z b1 h2
    · cases b1
  · rcases getS_push hj with ⟨h1, h2⟩ | ⟨_, h2⟩
    · obtain ⟨k0, k⟩ := r1.tg j q t h2
      have k0' : q < ι.length := by simp at k0; omega
      refine ⟨by simp at k0 ⊢; omega, fun p' hp => ?_⟩
      rcases cases' hp with ⟨_, b1⟩ | ⟨a1, _⟩
      · obtain ⟨k1, k2⟩ := k p' b1
        exact ⟨tagged_set k1 hcs0 hnt0 y, fun c xs hx => k2 c xs (by rw [hS k0'] at hx; exact hx)⟩
      · omega
    · exact absurd h2 (h.notag q t)
  · rcases cases' h1 with ⟨a1, b1⟩ | ⟨a1, b1⟩
    · exact r.own o' p' b1
    · cases b1; exact r.own o p ho
  · have : p ≠ q := by
      intro e; subst e
      rcases r.own o p ho with h' | h'
      · omega
      · exact hm h'
    rw [List.getElem?_set_ne this]; exact r.base q hq hm
theorem cast_some {c c' : Nat} {xs : List (Θ c')} {ys : List (Θ c)} (h : sCast c c' xs = some ys) : ∃ e : c' = c, ys = e ▸ xs := by
  unfold sCast at h
  split at h
  · rename_i e; exact ⟨e, (Option.some.inj h).symm⟩
  · cases h
theorem ofO_den {α : Type} {o : Option α} {K : α -> Prop} (h : (Cm.ofO o).den K) : ∃ v, o = some v ∧ K v := by
  cases o with
  | some v => exact ⟨v, rfl, h⟩
  | none => exact h.elim
theorem rv_one_agg {x : SV Θ} {a : AV} (h : RV C ι x a) (h1 : sOne x = true) : a.isAgg = false := by
  have := sOne_av h h1
  cases a <;> first | rfl | simp [AV.one] at this
theorem Cm.den_split' {α : Type} {b : Bool} {t e : Cm α} {K : α -> Prop} (h : (Cm.ite b t e).den K) : (b = true ∧ t.den K) ∨ (b = false ∧ e.den K) := by
  cases b with
  | true => exact .inl ⟨rfl, h.1 rfl⟩
  | false => exact .inr ⟨rfl, h.2 rfl⟩
theorem NilAs.app {as bs cs ds : List AV} (h : NilAs as bs) (k : NilAs cs ds) : NilAs (as ++ cs) (bs ++ ds) := by
  refine ⟨by simp [h.1, k.1], fun i a b ha hb => ?_⟩
  rcases Nat.lt_or_ge i as.length with h1 | h1
  · rw [List.getElem?_append_left h1] at ha
    rw [List.getElem?_append_left (by rw [<- h.1]; exact h1)] at hb
    exact h.2 i a b ha hb
  · rw [List.getElem?_append_right h1] at ha
    rw [List.getElem?_append_right (by rw [<- h.1]; exact h1), <- h.1] at hb
    exact k.2 _ a b ha hb
theorem NilAs.rep {as bs : List AV} (h : NilAs as bs) : ∀ n, NilAs (repA n as) (repA n bs) := by
  intro n
  induction n with
  | zero => exact ⟨rfl, fun i a b ha hb => by simp [repA] at ha⟩
  | succ n ih =>
    simp only [repA, List.replicate_succ, List.flatten_cons]
    exact h.app ih
theorem load_typed (ok : CodOk C) (r : RH C A ι S H) {l : Option Nat} {x : SV Θ} {a : AV} (hx : RV C ι x a) {K : SV Θ -> Prop} (h : (sLoad C S l x).den K) : ∃ v b, readA H l a = some b ∧ RV C ι v b ∧ K v := by
  unfold sLoad at h
  split at h
  · rename_i o off
    split at h
    · rename_i cs hcs
      cases hx with
      | ptr ho =>
        obtain ⟨y, hy, hr⟩ := r.get ho hcs (by simp)
        cases hr with
        | box hb =>
          obtain ⟨v, h1, h2⟩ := ofO_den h
          obtain ⟨b, h3, h4⟩ := rv_part hb h1
          exact ⟨v, b, by simp only [readA, hy]; exact h3, h4, h2⟩
    · exact h.elim
  · rename_i c o j off
    split at h
    · rename_i c' xs hcs
      cases hx with
      | eptr ho =>
        obtain ⟨z, hz, hr⟩ := r.get ho hcs (by simp)
        cases hr with
        | arr _ _ ext =>
          split at h
          · rename_i hc
            have := nbeq_true hc
            subst this
            obtain ⟨y, hy, h⟩ := h
            split at h
            · rename_i hle
              have hle' := Nat.le_of_ble_eq_true hle
              obtain ⟨v, h1, h2⟩ := ofO_den h
              obtain ⟨b, h3, h4⟩ := rv_part (ok.rd c y ι) h1
              obtain ⟨as, bs, e1, e2, _⟩ := flat_split ok hy ext
              refine ⟨v, b, ?_, h4, h2⟩
              simp only [readA, hz]
              rw [e1, <- e2, part_split (by rw [ok.len]; exact hle')]
              · exact h3
              · cases l with
                | none => exact .inl (by simp [laySize])
                | some n => exact .inr rfl
            · exact h.elim
          · exact h.elim
    · rename_i c' xs k cs hcs
      cases hx with
      | eptr ho =>
        obtain ⟨z, hz, hr⟩ := r.get ho hcs (by simp)
        cases hr with
        | hole hj hi hl ext =>
          split at h
          · rename_i hc hle
            have := nbeq_true hc
            subst this
            have hle' := Nat.le_of_ble_eq_true hle
            have pos : 0 < laySize l ∨ l.isSome = true := by
              cases l with
              | none => exact .inl (by simp [laySize])
              | some n => exact .inr rfl
            rcases Cm.den_split' h with ⟨hb, h'⟩ | ⟨hb, h'⟩
            · have hjk := of_decide_eq_true hb
              subst hjk
              obtain ⟨v, h1, h2⟩ := ofO_den h'
              obtain ⟨b, h3, h4⟩ := rv_part hi h1
              refine ⟨v, b, ?_, h4, h2⟩
              simp only [readA, hz]
              have e2 : (C.flat c (xs.take j)).length = j * C.sz c := by rw [flat_length ok]; simp; rw [Nat.min_eq_left (by omega)]
              rw [<- e2, part_split (by rw [<- hi.1, hl]; exact hle') pos]
              exact h3
            · have hjk := of_decide_eq_false hb
              obtain ⟨y, hy, h'⟩ := h'
              obtain ⟨v, h1, h2⟩ := ofO_den h'
              obtain ⟨b, h3, h4⟩ := rv_part (ok.rd c y ι) h1
              obtain ⟨as, bs, e1, e2⟩ := hole_other ok hy hjk hj (by rw [<- hi.1, hl]) ext
              refine ⟨v, b, ?_, h4, h2⟩
              simp only [readA, hz]
              rw [e1, <- e2, part_split (by rw [ok.len]; exact hle') pos]
              exact h3
          · exact h.elim
    · exact h.elim
  · rename_i x
    cases hx with
    | rp hx =>
      split at h
      · split at h
        · rename_i n _ cs
          split at h
          · rename_i hn
            have := nbeq_true hn
            cases hx with
            | agg hl hh => exact ⟨_, _, by simp only [readA]; rw [if_pos (by rw [<- hl]; exact this)], .agg hl hh, h⟩
          · exact h.elim
        · exact h.elim
      · split at h
        · rename_i h1
          exact ⟨_, _, by simp only [readA]; rw [rv_one_agg hx h1]; simp, hx, h⟩
        · exact h.elim
  · exact h.elim
theorem store_typed (ok : CodOk C) (r : RH C A ι S H) {l : Option Nat} {x : SV Θ} {a : AV} (hx : RV C ι x a) {vs : List (SV Θ)} {b : AV} {as : List AV} (hb : b.flat = some as) (hv : RVs C ι vs as) {K : SHeap Θ -> Prop} (h : (sStore C S l vs x).den K) :
    ∃ S' H', storeA H l a b = some H' ∧ RH C A ι S' H' ∧ K S' := by
  unfold sStore at h
  split at h
  · rename_i o off
    split at h
    · rename_i cs hcs
      cases hx with
      | ptr ho =>
        obtain ⟨y, hy, hr⟩ := r.get ho hcs (by simp)
        cases hr with
        | box hbx =>
          split at h
          · rename_i h1 h2 h3
            have h1 := nbeq_true h1
            have h2 := Nat.le_of_ble_eq_true h2
            refine ⟨_, _, ?_, r.set ho (by rw [<- nth_get]; exact hcs) (by simp) (.box (sSets_rv (off := off) hbx hv)) .box, h⟩
            simp only [storeA, hb, hy]
            rw [if_pos ⟨by rw [<- hv.1]; exact h1, by rw [<- hv.1, <- hbx.1]; exact h2, sOnes_av hv h3⟩]
          · exact h.elim
    · exact h.elim
  · rename_i c o j off
    split at h
    · rename_i c' xs hcs
      cases hx with
      | eptr ho =>
        obtain ⟨z, hz, hr⟩ := r.get ho hcs (by simp)
        cases hr with
        | arr _ _ ext =>
          split at h
          · rename_i hc h1 h2
            have := nbeq_true hc
            subst this
            have h1 := nbeq_true h1
            have h2 := Nat.le_of_ble_eq_true h2
            obtain ⟨y, hy, h⟩ := h
            simp only at h
            split at h
            · rename_i y' hy'
              obtain ⟨bs, cs, e1, e2, e3⟩ := flat_split ok hy ext
              have e4 := ok.wr c _ y' _ ι hy' (sSets_rv (off := off) (ok.rd c y ι) hv)
              have hlen : off + as.length <= (C.avs c y).length := by rw [ok.len, <- hv.1]; exact h2
              have e5 : setsA (C.flat c xs ++ ext) (j * C.sz c + off) as = C.flat c (xs.set j y') ++ ext := by
                rw [e1, e3, <- e2, setsA_app _ _ _ _ _ hlen, e4]
              have hone : as.all AV.one = true := by
                rw [List.all_eq_true]
                intro q hq
                obtain ⟨i, hi, rfl⟩ := List.getElem_of_mem hq
                have := setsA_get as (C.avs c y) off hlen (off + i)
                rw [if_pos (by omega), show off + i - off = i by omega, List.getElem?_eq_getElem hi, e4] at this
                exact ok.one c y' _ (List.mem_of_getElem? this)
              refine ⟨_, _, ?_, r.set ho (by rw [<- nth_get]; exact hcs) (by simp) (.arr c (xs.set j y') ext) (fun c' xs' h1 h2 => by cases h1; exact ⟨_, by congr 1; simpa using h2⟩), h⟩
              have hin : j * C.sz c + off + as.length <= (C.flat c xs ++ ext).length := by
                rw [e1]; simp only [List.length_append]; omega
              simp only [storeA, hb, hz]
              rw [if_pos ⟨by rw [<- hv.1]; exact h1, hin, hone⟩, e5]
            · split at h
              · rename_i h3 h4 h5
                have h3 := nbeq_true h3
                have h4 := nbeq_true h4
                subst h3
                have hjl := getElem?_lt hy
                obtain ⟨e1, e2⟩ := flat_split' ok hy ext
                have hlen : as.length = (C.avs c y).length := by rw [ok.len, <- hv.1]; exact h4
                have e5 : setsA (C.flat c xs ++ ext) (j * C.sz c + 0) as = C.flat c (xs.take j) ++ (as ++ (C.flat c (xs.drop (j + 1)) ++ ext)) := by
                  rw [e1, <- e2, setsA_app _ _ _ _ _ (by omega)]
                  congr 2
                  apply List.ext_getElem?
                  intro i
                  have := setsA_get as (C.avs c y) 0 (by omega) i
                  rw [this]
                  by_cases hi : i < as.length
                  · rw [if_pos (by omega), Nat.sub_zero]
                  · rw [if_neg (by omega), List.getElem?_eq_none (by omega), List.getElem?_eq_none (by omega)]
                refine ⟨_, _, ?_, r.set ho (by rw [<- nth_get]; exact hcs) (by simp) (.hole hjl hv h4 ext) (fun c' xs' h1 h2 => by cases h1), h⟩
                have hin : j * C.sz c + 0 + as.length <= (C.flat c xs ++ ext).length := by
                  rw [e1]; simp only [List.length_append]; omega
                simp only [storeA, hb, hz]
                rw [if_pos ⟨by rw [<- hv.1]; exact h1, hin, sOnes_av hv h5⟩, e5]
              · exact h.elim
          · exact h.elim
    · exact h.elim
  · exact h.elim
theorem decs_sound (ok : CodOk C) {c : Nat} : ∀ {n : Nat} {cs : List (SV Θ)} {as : List AV} {xs : List (Θ c)}, sDecs C c n cs = some xs -> RVs C ι cs as -> as = C.flat c xs ∧ xs.length = n := by
  intro n
  induction n with
  | zero =>
    intro cs as xs h hr
    simp only [sDecs] at h
    split at h
    · cases h; rw [hr.unnil]; exact ⟨rfl, rfl⟩
    · cases h
  | succ n ih =>
    intro cs as xs h hr
    simp only [sDecs] at h
    split at h
    · rename_i x hx
      split at h
      · rename_i ys hys
        cases h
        obtain ⟨h1, h2⟩ := ih hys (hr.drop _)
        have h3 := ok.wr c _ x _ ι hx (hr.take _)
        refine ⟨?_, by simp [h2]⟩
        rw [flat_cons, <- h1, <- h3, List.take_append_drop]
      · cases h
    · cases h
theorem decsN_sound (ok : CodOk C) {c : Nat} : ∀ {n : Nat} {cs : List (SV Θ)} {as : List AV} {xs : List (Θ c)}, sDecsN C c n cs = some xs -> RVs C ι cs as -> NilAs as (C.flat c xs) ∧ xs.length = n := by
  intro n
  induction n with
  | zero =>
    intro cs as xs h hr
    simp only [sDecsN] at h
    split at h
    · cases h; rw [hr.unnil]; exact ⟨⟨rfl, fun i a b ha => by simp at ha⟩, rfl⟩
    · cases h
  | succ n ih =>
    intro cs as xs h hr
    simp only [sDecsN] at h
    split at h
    · rename_i x hx
      split at h
      · rename_i ys hys
        cases h
        obtain ⟨h1, h2⟩ := ih hys (hr.drop _)
        have h3 := ok.zer c _ x _ ι hx (hr.take _)
        refine ⟨?_, by simp [h2]⟩
        rw [flat_cons]
        have := h3.app h1
        rw [List.take_append_drop] at this
        exact this
      · cases h
    · cases h
theorem avE_cells (ok : CodOk C) {c : Nat} (x : Θ c) : (C.avE c x).cells = C.avs c x := by
  have hl := ok.len c x
  unfold Cod.avE wrapA
  unfold Cod.sz at hl
  split
  · rfl
  · rename_i hlay
    rw [hlay] at hl
    simp only [laySize] at hl
    match h1 : C.avs c x, hl with
    | [a], _ =>
      have := ok.one c x a (by rw [h1]; simp)
      cases a <;> first | rfl | simp [AV.one] at this
theorem src_typed (ok : CodOk C) (r : RH C A ι S H) {c : Nat} {x : SV Θ} {a : AV} (hx : RV C ι x a) {K : List (Θ c) -> Prop} (h : (sSrc C S c x).den K) :
    ∃ news, cellsA H (C.sz c) a = some (news.length, C.flat c news) ∧ K news := by
  unfold sSrc at h
  split at h
  · cases hx; exact ⟨[], rfl, h⟩
  · cases hx; exact ⟨[], rfl, h⟩
  · rename_i c' xs
    obtain ⟨ys, h1, h2⟩ := ofO_den h
    obtain ⟨e, he⟩ := cast_some h1
    subst e
    have he : ys = xs := he
    subst he
    cases hx
    refine ⟨ys, ?_, h2⟩
    simp only [cellsA, if_true, List.length_map]
    congr 2
    simp only [List.flatMap_map, Cod.flat]
    congr 1
    funext x
    exact avE_cells ok x
  · rename_i c' o off len cap
    split at h
    · rename_i c'' xs hcs
      split at h
      · rename_i hc
        have := nbeq_true hc
        subst this
        split at h
        · rename_i ys hys
          obtain ⟨e, he⟩ := cast_some hys
          subst e
          have he : ys = xs := he
          subst he
          obtain ⟨h1, h2⟩ := h
          cases hx with
          | sl ho hk hc' =>
            obtain ⟨z, hz, hr⟩ := r.get ho hcs (by simp)
            cases hr with
            | arr _ _ ext =>
              have hll : ((ys.drop off).take len).length = len := by simp; omega
              refine ⟨(ys.drop off).take len, ?_, h2⟩
              simp only [cellsA, if_true]
              by_cases h0 : len = 0
              · subst h0; simp [flat_nil]
              · rw [if_neg h0, hz]
                simp only
                have hmul : off * C.sz c' + len * C.sz c' = (off + len) * C.sz c' := (Nat.add_mul _ _ _).symm
                have hle : (off + len) * C.sz c' <= ys.length * C.sz c' := Nat.mul_le_mul_right _ h1
                rw [if_pos (by simp [flat_length ok]; omega), hll]
                congr 2
                rw [flat_drop ok _ _ (by omega), flat_take ok _ _ (by simp; omega)]
          | slNil ho hc' ha =>
            refine ⟨[], ?_, by have h3 : K ((ys.drop 0).take 0) := h2; simpa using h3⟩
            rcases ha with rfl | rfl <;> rfl
        · exact h.elim
      · exact h.elim
    · exact h.elim
  · exact h.elim
theorem flat_one (ok : CodOk C) {c : Nat} (xs : List (Θ c)) : (C.flat c xs).all AV.one = true := by
  rw [List.all_eq_true]
  intro a ha
  simp only [Cod.flat, List.mem_flatMap] at ha
  obtain ⟨x, _, hx⟩ := ha
  exact ok.one c x a hx
theorem app_new (ok : CodOk C) (r : RH C A ι S H) {c bytes : Nat} {news : List (Θ c)} (hl : news.length * bytes <= LIM ∧ news.length <= LIM) {a : AV} (ha : a = nilSl ∨ a = .z0) :
    ∃ L b H', appendA H (C.sz c) bytes a news.length (C.flat c news) = some (b, H') ∧ RV C (ι ++ L) (.sl c S.length 0 news.length none) b ∧ RH C A (ι ++ L) (S ++ [.arr c news]) H' := by
  cases news with
  | nil =>
    refine ⟨[none], a, H, ?_, .slNil (by rw [<- r.len]; simp) (.inl rfl) ha, r.pushNil c⟩
    rcases ha with rfl | rfl <;> rfl
  | cons x xs =>
    have e : appendA H (C.sz c) bytes a (x :: xs).length (C.flat c (x :: xs)) = some (.sl (C.sz c) H.length 0 (x :: xs).length none, H ++ [.cells (C.flat c (x :: xs))]) := by
      rcases ha with rfl | rfl <;> (simp only [appendA, nilSl]; rw [if_neg (by simp), if_pos hl])
    refine ⟨[some H.length], _, _, e, ?_, r.push (by have := RObj.arr (C := C) (ι := ι ++ [some H.length]) c (x :: xs) []; rw [List.append_nil] at this; exact this)⟩
    have := RV.sl (C := C) (ι := ι ++ [some H.length]) (c := c) (o := S.length) (off := 0) (len := (x :: xs).length) (cap := none) (acap := none) (p := H.length) (by rw [<- r.len]; simp) (fun k h => by cases h) (.inl rfl)
    rw [Nat.zero_mul] at this
    exact this
theorem app_typed (ok : CodOk C) (r : RH C A ι S H) {c bytes : Nat} (hsz : 0 < C.sz c) {news : List (Θ c)} {x : SV Θ} {a : AV} (hx : RV C ι x a) {K : SV Θ × SHeap Θ -> Prop} (h : (sApp S c bytes news x).den K) :
    ∃ v S' L b H', appendA H (C.sz c) bytes a news.length (C.flat c news) = some (b, H') ∧ RV C (ι ++ L) v b ∧ RH C A (ι ++ L) S' H' ∧ K (v, S') := by
  unfold sApp at h
  split at h
  · obtain ⟨h1, h2⟩ := h
    cases hx
    obtain ⟨L, b, H', k1, k2, k3⟩ := app_new ok r h1 (.inl rfl)
    exact ⟨_, _, L, b, H', k1, k2, k3, h2⟩
  · obtain ⟨h1, h2⟩ := h
    cases hx
    obtain ⟨L, b, H', k1, k2, k3⟩ := app_new ok r h1 (.inr rfl)
    exact ⟨_, _, L, b, H', k1, k2, k3, h2⟩
  · rename_i c' o len cap
    split at h
    · rename_i hc0
      have := nbeq_true hc0
      subst this
      split at h
      · rename_i c'' xs hcs
        split at h
        · rename_i hc
          have := nbeq_true hc
          subst this
          split at h
          · rename_i ys hys
            obtain ⟨e, he⟩ := cast_some hys
            have he : ys = xs := he
            subst he
            obtain ⟨⟨h1, h2, h3⟩, h4⟩ := h
            have h4 : K (.sl c' S.length 0 (ys ++ news).length none, S.set o .dead ++ [.arr c' (ys ++ news)]) := h4
            rw [show (ys ++ news).length = len + news.length by simp [h1]] at h4
            have hcs' : S[o]? = some (.arr c' ys) := by rw [<- nth_get]; exact hcs
            have kd := r.kill o
            cases hx with
            | slNil ho hc' ha =>
              have hys0 : ys = [] := List.length_eq_zero_iff.1 h1.symm
              subst hys0
              obtain ⟨L, b, H', k1, k2, k3⟩ := app_new ok kd (news := news) (bytes := bytes) ⟨by simpa using h2, by simpa using h3⟩ ha
              refine ⟨_, _, L, b, H', k1, ?_, ?_, h4⟩
              · simpa using k2
              · simpa using k3
            | @sl _ _ _ _ _ acap p ho hk hc' =>
              obtain ⟨z, hz, hr⟩ := r.get ho hcs (by simp)
              cases hr with
              | arr _ _ ext =>
                have hfl := flat_length ok ys
                have hfn := flat_length ok news
                rw [Nat.zero_mul]
                simp only [appendA, if_true]
                by_cases h0 : news.length = 0
                · -- nothing is appended
                  have hn0 : news = [] := List.length_eq_zero_iff.1 h0
                  subst hn0
                  have ra := r.again ho hcs' (by simp) (x := .arr c' (ys ++ [])) (y := .cells (C.flat c' ys ++ ext)) (by have := RObj.arr (C := C) (ι := ι ++ [some p]) c' (ys ++ []) ext; rw [List.append_nil] at this ⊢; exact this)
                  have hset : H.set p (.cells (C.flat c' ys ++ ext)) = H := by
                    apply List.ext_getElem?
                    intro i
                    by_cases e : p = i
                    · subst e; rw [List.getElem?_set_self (getElem?_lt hz), hz]
                    · rw [List.getElem?_set_ne e]
                  rw [hset] at ra
                  refine ⟨_, _, [some p], _, _, by rw [if_pos h0], ?_, ra, h4⟩
                  have := RV.sl (C := C) (ι := ι ++ [some p]) (c := c') (o := S.length) (off := 0) (len := len + ([] : List (Θ c')).length) (cap := none) (acap := acap) (p := p) (by rw [<- r.len]; simp) (fun k h => by have := hk k h; simpa using this) (.inr rfl)
                  rw [Nat.zero_mul] at this
                  exact this
                · rw [if_neg h0, hz]
                  simp only
                  rw [if_pos (flat_one ok news)]
                  have htake : ((C.flat c' ys ++ ext).drop 0).take (len * C.sz c') = C.flat c' ys := by
                    rw [List.drop_zero, flat_take ok _ _ (by omega), h1, List.take_length]
                  have hnew : RV C (ι ++ [some H.length]) (.sl c' S.length 0 (len + news.length) none) (.sl (C.sz c') H.length 0 (len + news.length) none) := by
                    have := RV.sl (C := C) (ι := ι ++ [some H.length]) (c := c') (o := S.length) (off := 0) (len := len + news.length) (cap := none) (acap := none) (p := H.length) (by rw [<- r.len]; simp) (fun k h => by cases h) (.inl rfl)
                    rw [Nat.zero_mul] at this
                    exact this
                  have hrobj : RObj C (ι ++ [some H.length]) (.arr c' (ys ++ news)) (.cells (C.flat c' ys ++ C.flat c' news)) := by
                    have := RObj.arr (C := C) (ι := ι ++ [some H.length]) c' (ys ++ news) []
                    rw [List.append_nil, flat_append] at this
                    exact this
                  have hlen' : (S.set o SO.dead).length = S.length := by simp
                  split
                  · rename_i hin
                    -- in place, in cells that are known
                    have hset : setsA (C.flat c' ys ++ ext) (0 + len * C.sz c') (C.flat c' news) = C.flat c' (ys ++ news) ++ ext.drop (news.length * C.sz c') := by
                      have hext : news.length * C.sz c' <= ext.length := by
                        have h5 : (0 + (len + news.length) * C.sz c') = len * C.sz c' + news.length * C.sz c' := by rw [Nat.add_mul]; omega
                        simp at hin
                        rw [hfl, <- h1] at hin
                        rw [Nat.add_mul] at hin
                        omega
                      have hs0 : ∀ (vs as : List AV), vs.length <= as.length -> setsA as 0 vs = vs ++ as.drop vs.length := by
                        intro vs as h
                        apply List.ext_getElem?
                        intro i
                        rw [setsA_get _ _ _ (by omega)]
                        by_cases hi : i < vs.length
                        · rw [if_pos (by omega), List.getElem?_append_left hi]; simp
                        · rw [if_neg (by omega), List.getElem?_append_right (by omega), List.getElem?_drop]
                          congr 1; omega
                      have := setsA_app (C.flat c' news) (C.flat c' ys) ext [] 0 (by rw [hfn]; omega)
                      rw [List.append_nil, List.append_nil, Nat.add_zero, hfl, <- h1, hs0 _ _ (by rw [hfn]; exact hext)] at this
                      rw [Nat.zero_add, this, flat_append, hfn, List.append_assoc]
                    cases acap with
                    | none =>
                      refine ⟨_, _, [some p], _, _, rfl, ?_, ?_, h4⟩
                      · have := RV.sl (C := C) (ι := ι ++ [some p]) (c := c') (o := S.length) (off := 0) (len := len + news.length) (cap := none) (acap := none) (p := p) (by rw [<- r.len]; simp) (fun k h => by cases h) (.inl rfl)
                        rw [Nat.zero_mul] at this
                        exact this
                      · rw [hset]
                        exact r.again ho hcs' (by simp) (.arr c' (ys ++ news) _)
                    | some k0 =>
                      simp only
                      split
                      · rename_i hroom
                        refine ⟨_, _, [some p], _, _, rfl, ?_, ?_, h4⟩
                        · have := RV.sl (C := C) (ι := ι ++ [some p]) (c := c') (o := S.length) (off := 0) (len := len + news.length) (cap := none) (acap := some k0) (p := p) (by rw [<- r.len]; simp) (fun k h => by cases h; exact hroom) (.inr rfl)
                          rw [Nat.zero_mul] at this
                          exact this
                        · rw [hset]
                          exact r.again ho hcs' (by simp) (.arr c' (ys ++ news) _)
                      · rw [if_pos ⟨h2, h3, by simp; rw [hfl, h1]; omega⟩, htake]
                        refine ⟨_, _, [some H.length], _, _, rfl, hnew, ?_, h4⟩
                        exact kd.push hrobj
                  · rename_i hin
                    rw [if_pos ⟨h2, h3, by simp; rw [hfl, h1]; omega⟩, htake]
                    refine ⟨_, _, [some H.length], _, _, rfl, hnew, ?_, h4⟩
                    have hlg : letgo acap (len + news.length) H p = H ∨ letgo acap (len + news.length) H p = H.set p .dead := by
                      unfold letgo; split
                      · split
                        · exact .inl rfl
                        · exact .inr rfl
                      · exact .inr rfl
                    rcases hlg with hlg | hlg
                    · rw [hlg]; exact kd.push hrobj
                    rw [hlg]
                    have kd2 := kd.drop ho (by rw [List.getElem?_set_self (getElem?_lt hcs')]) (fun o' hne h' => by
                      rw [List.getElem?_set_ne (Ne.symm hne)]
                      rcases r.inj o' o p h' ho with h5 | h5 | h5
                      · exact absurd h5 hne
                      · exact h5
                      · rw [hcs'] at h5; cases h5) hz .dead
                    have := kd2.push (x := .arr c' (ys ++ news)) (y := .cells (C.flat c' ys ++ C.flat c' news)) (by simpa using hrobj)
                    simpa using this
          · exact h.elim
        · exact h.elim
      · exact h.elim
    · exact h.elim
  · exact h.elim
theorem ne_mid {α : Type} {ys : List α} {off len : Nat} {z : α} (h : off + len <= ys.length) (e : ys.take off ++ (List.replicate len z ++ ys.drop (off + len)) = []) : ys = [] := by
  have := congrArg List.length e
  simp only [List.length_append, List.length_take, List.length_replicate, List.length_drop, List.length_nil] at this
  exact List.length_eq_zero_iff.1 (by omega)
theorem ne_mid2 {α : Type} {ys news : List α} {off q : Nat} (h : off + q <= ys.length) (hn : q <= news.length) (e : ys.take off ++ (news.take q ++ ys.drop (off + q)) = []) : ys = [] := by
  have := congrArg List.length e
  simp only [List.length_append, List.length_take, List.length_drop, List.length_nil] at this
  exact List.length_eq_zero_iff.1 (by omega)
theorem repA_flat (c : Nat) (z0 : Θ c) (q : Nat) : repA q (C.avs c z0) = C.flat c (List.replicate q z0) := by
  unfold repA Cod.flat
  induction q with
  | zero => rfl
  | succ n ih => simp [List.replicate_succ, ih]
theorem byteOf_flat (ok : CodOk C) {c : Nat} (h8 : C.ty8 c = true) (xs : List (Θ c)) : bytesOfA (C.flat c xs) = some (xs.map fun x => byteOf (C.cells c x)) := by
  induction xs with
  | nil => rfl
  | cons x xs ih =>
    obtain ⟨h1, n, h2⟩ := ok.un8 c x h8
    have hr := ok.rd c x []
    rw [h2] at hr
    have hl := ok.len c x
    match h3 : C.avs c x, hl with
    | as, hl =>
      rw [h3] at hr
      obtain ⟨a, bs, rfl, ha, hb⟩ := hr.uncons
      have := hb.unnil
      subst this
      cases ha
      rw [flat_cons, h3]
      simp only [List.cons_append, List.nil_append, bytesOfA, ih, Option.map_some, List.map_cons, h2, byteOf, intOf]
theorem flat_bytes (ok : CodOk C) {c : Nat} (h8 : C.ty8 c = true) (l : List UInt8) : C.flat c (l.filterMap fun b => C.dec c [.i .u8 (b.toNat : Int)]) = byteCells ⟨l.toArray⟩ ∧ (l.filterMap fun b => C.dec c [.i .u8 (b.toNat : Int)]).length = l.length := by
  unfold byteCells
  simp only
  induction l with
  | nil => exact ⟨rfl, rfl⟩
  | cons b l ih =>
    obtain ⟨x, hx⟩ := ok.to8 c (b.toNat : Int) h8
    have := ok.wr c _ x [.v (.int .u8 (b.toNat : Int))] [] hx (.cons (.i _ _) .nil)
    rw [List.filterMap_cons, hx]
    simp only [flat_cons, List.length_cons, ih.2, <- this, List.cons_append, List.nil_append, ih.1, and_true]
    rfl
theorem flat_avE (ok : CodOk C) {c : Nat} (hl : C.lay c = none) (hs : C.sz c = 1) (xs : List (Θ c)) : C.flat c xs = xs.map (C.avE c) := by
  have one : ∀ x, C.avs c x = [C.avE c x] := by
    intro x
    have h := ok.len c x
    rw [hs] at h
    unfold Cod.avE wrapA
    rw [hl]
    match hm : C.avs c x, h with
    | [a], _ => rfl
  unfold Cod.flat
  induction xs with
  | nil => rfl
  | cons x xs ih => rw [List.flatMap_cons, one, ih]; rfl
theorem RH.grow (r : RH C A ι S H) (y : AObj) : RH C A ι S (H ++ [y]) := by
  refine ⟨r.len, fun o p ho => ?_, r.inj, fun o p z ho hz => ?_, r.nil, fun j q t hj => ?_, r.own, by simp; have := r.big; omega, fun p hp hm => ?_, r.rts⟩
  · have := r.lt o p ho; simp; omega
  · rcases r.obj o p z ho hz with h | ⟨y', h1, h2⟩
    · exact .inl h
    · exact .inr ⟨y', by rw [List.getElem?_append_left (r.lt o p ho)]; exact h1, h2⟩
  · obtain ⟨k0, k⟩ := r.tg j q t hj
    exact ⟨k0, fun p hp => ⟨tagged_push (k p hp).1 y, (k p hp).2⟩⟩
  · rw [List.getElem?_append_left (by have := r.big; omega)]; exact r.base p hp hm
theorem sTag_get : ∀ {S : SHeap Θ} {o e : Nat}, sTag S o e = true -> ∃ j : Nat, S[j]? = some (.tag o e) := by
  intro S
  induction S with
  | nil => intro o e h; cases h
  | cons x S ih =>
    intro o e h
    unfold sTag at h
    split at h
    · cases h
    · rename_i q t r he
      cases he
      split at h
      · rename_i h1 h2
        exact ⟨0, by rw [nbeq_true h1, nbeq_true h2]; rfl⟩
      · obtain ⟨j, hj⟩ := ih h
        exact ⟨j + 1, by simpa using hj⟩
    · rename_i r _ he
      cases he
      obtain ⟨j, hj⟩ := ih h
      exact ⟨j + 1, by simpa using hj⟩
theorem sApp_shape {c bytes : Nat} {news : List (Θ c)} {x : SV Θ} {K : SV Θ × SHeap Θ -> Prop} (h : (sApp S c bytes news x).den K) :
    (sApp S c bytes news x).den fun r => K r ∧ ∃ (S0 : SHeap Θ) (olds : List (Θ c)), r = (.sl c S.length 0 (olds ++ news).length none, S0 ++ [.arr c (olds ++ news)]) ∧ S0.length = S.length ∧
      (∀ (j q : Nat) (t : TypeId), S[j]? = some (.tag q t) -> S0[j]? = some (.tag q t)) ∧ ∀ (o len : Nat) (cap : Option Nat), x = .sl c o 0 len cap -> S[o]? = some (.arr c olds) := by
  unfold sApp at h ⊢
  split at h
  · exact ⟨h.1, h.2, S, [], rfl, rfl, fun _ _ _ h => h, fun _ _ _ h => by cases h⟩
  · exact ⟨h.1, h.2, S, [], rfl, rfl, fun _ _ _ h => h, fun _ _ _ h => by cases h⟩
  · split at h
    · rename_i hc0
      have := nbeq_true hc0
      subst this
      split at h
      · rename_i c'' xs hcs
        split at h
        · rename_i hc
          have := nbeq_true hc
          subst this
          split at h
          · rename_i ys hys
            obtain ⟨e, he⟩ := cast_some hys
            have he : ys = xs := he
            subst he
            refine ⟨h.1, h.2, S.set _ .dead, ys, rfl, by simp, fun j q t hj => ?_, fun o len cap hx => ?_⟩
            · rw [nth_get] at hcs
              rw [List.getElem?_set_ne (fun e => by subst e; rw [hcs] at hj; cases hj)]
              exact hj
            · cases hx; rw [nth_get] at hcs; exact hcs
          · exact h.elim
        · exact h.elim
      · exact h.elim
    · exact h.elim
  · exact h.elim
theorem appendA_at {H H' : Heap} {sz bytes m p n : Nat} {cap : Option Nat} {a : AV} {news : List AV} (h : appendA H sz bytes a m news = some (.sl sz p 0 n cap, H')) :
    (p = H.length ∧ H.length < H'.length ∧ 0 < m) ∨ (H'.length <= H.length ∧ ∃ len cap', a = .sl sz p 0 len cap') := by
  unfold appendA at h
  split at h
  · split at h
    · cases h
    · split at h
      · cases h; exact .inl ⟨rfl, by simp, by omega⟩
      · cases h
  · split at h
    · cases h
    · split at h
      · cases h; exact .inl ⟨rfl, by simp, by omega⟩
      · cases h
  · split at h <;> cases h
  · split at h
    · rename_i hs
      subst hs
      split at h
      · cases h; exact .inr ⟨Nat.le_refl _, _, _, rfl⟩
      · split at h
        · split at h
          · split at h
            · split at h
              · split at h
                · cases h; exact .inr ⟨by simp, _, _, rfl⟩
                · split at h
                  · cases h; exact .inl ⟨rfl, by simp, by omega⟩
                  · cases h
              · cases h; exact .inr ⟨by simp, _, _, rfl⟩
            · split at h
              · cases h; exact .inl ⟨rfl, by simp [letgo_len], by omega⟩
              · cases h
          · cases h
        · cases h
    · cases h
  · cases h
theorem appendA_nil {H H' : Heap} {sz bytes m : Nat} {a b : AV} {news : List AV} (h : appendA H sz bytes a m news = some (b, H')) (hb : b = .z0) : a = .z0 := by
  subst hb
  unfold appendA at h
  split at h
  · split at h
    · cases h
    · split at h <;> cases h
  · rfl
  · split at h <;> cases h
  · split at h
    · split at h
      · cases h
      · split at h
        · split at h
          · split at h
            · split at h
              · split at h
                · cases h
                · split at h <;> cases h
              · cases h
            · split at h <;> cases h
          · cases h
        · cases h
    · cases h
  · cases h
theorem appT_typed (ok : CodOk C) (r : RH C A ι S H) {c e : Nat} (hsz : 0 < C.sz c) {news : List (Θ c)} {x z : SV Θ} {a : AV} (hx : RV C ι x a) (hz : blSl S e x = some z) {K : SV Θ × SHeap Θ -> Prop}
    (h : ((sApp S c 1 news z).bind fun r => .ret (slBl r.1, r.2 ++ [.tag S.length e])).den K) :
    ∃ v S' L b H', appendA H (C.sz c) 1 a news.length (C.flat c news) = some (b, H') ∧ RV C (ι ++ L) v b ∧ RH C A (ι ++ L) S' (tagIf H H' e a) ∧ K (v, S') := by
  unfold blSl at hz
  split at hz
  · rename_i c0 o len
    split at hz
    · rename_i ht
      cases hz
      obtain ⟨j, hj⟩ := sTag_get ht
      obtain ⟨ho0, htg⟩ := r.tg j o e hj
      have hxs : RV C ι (.sl c0 o 0 len none) a := by
        cases hx with
        | bl0 ho => exact .slNil ho (.inl rfl) (.inl rfl)
        | bl1 ho hk => have := RV.sl (C := C) (ι := ι) (c := c0) (o := o) (off := 0) (len := len) (cap := none) ho hk (.inr rfl); rw [Nat.zero_mul] at this; exact this
      have hnz : a ≠ .z0 := by
        cases hx with
        | bl0 ho => simp [nilSl]
        | bl1 ho hk => simp
      obtain ⟨v, S', L, b, H', h1, h2, h3, h4, S0, olds, h5, h6, h7, h8⟩ := app_typed ok r hsz hxs (sApp_shape (Cm.den_bind h))
      cases h5
      have h4 : K (.bl c S.length (olds ++ news).length, (S0 ++ [.arr c (olds ++ news)]) ++ [.tag S.length e]) := h4
      have hc : c0 = c := by
        have := Cm.den_bind h
        unfold sApp at this
        simp only at this
        split at this
        · rename_i hc0; exact nbeq_true hc0
        · exact this.elim
      subst hc
      have hrv : RV C ((ι ++ L) ++ [none]) (.bl c0 S.length (olds ++ news).length) b := by
        refine RV.mono ?_ _
        generalize hlen : (olds ++ news).length = n at h2
        cases h2 with
        | sl ho hk hc => rw [Nat.zero_mul]; exact .bl1 ho hk
        | slNil ho hc hb =>
          rcases hb with rfl | rfl
          · exact .bl0 ho
          · exact absurd (appendA_nil h1 rfl) hnz
      have hj' : (S0 ++ [SO.arr c0 (olds ++ news)])[j]? = some (.tag o e) := by
        rw [List.getElem?_append_left (by rw [h6]; exact getElem?_lt hj)]; exact h7 j o e hj
      have hgrow : RH C A (ι ++ L) (S0 ++ [.arr c0 (olds ++ news)]) (tagIf H H' e a) := by
        unfold tagIf
        split
        · exact h3
        · split
          · exact h3.grow _
          · exact h3.grow _
          · split
            · exact h3.grow _
            · exact h3
          · exact h3
      refine ⟨_, _, L ++ [none], b, H', h1, by rw [<- List.append_assoc]; exact hrv, ?_, h4⟩
      rw [<- List.append_assoc]
      refine hgrow.pushN (.inr ⟨S.length, e, rfl, by simp [h6], fun p hp => ?_⟩)
      have hb : ∃ cap, b = .sl (C.sz c0) p 0 (olds ++ news).length cap := by
        generalize hlen : (olds ++ news).length = n at h2 ⊢
        cases h2 with
        | sl ho hk hc => rw [hp] at ho; cases ho; rw [Nat.zero_mul]; exact ⟨_, rfl⟩
        | slNil ho hc hb => rw [hp] at ho; cases ho
      obtain ⟨cap, hb⟩ := hb
      rw [hb] at h1
      have hget : ∀ (c1 : Nat) (xs : List (Θ c1)), (S0 ++ [SO.arr c0 (olds ++ news)])[S.length]? = some (.arr c1 xs) -> c1 = c0 ∧ HEq xs (olds ++ news) := by
        intro c1 xs hh
        rw [<- h6] at hh
        simp at hh
        obtain ⟨rfl, hh⟩ := hh
        exact ⟨rfl, hh.symm⟩
      rcases appendA_at h1 with ⟨e1, e2, e3⟩ | ⟨e1, len', cap', e2⟩
      · subst e1
        refine ⟨?_, fun c1 xs hh => ?_⟩
        · have hble : Nat.ble H'.length H.length = false := by
            cases hq : Nat.ble H'.length H.length with
            | false => rfl
            | true => have := Nat.le_of_ble_eq_true hq; omega
          unfold tagIf
          rw [hble]
          simp only
          cases hx with
          | bl0 ho => exact tagged_of (i := H'.length) (by simp [nilSl])
          | @bl1 _ _ _ p0 acap ho hk =>
            have := (htg p0 ho).1
            simp only [this]
            exact tagged_of (i := H'.length) (by simp)
        · obtain ⟨rfl, hh⟩ := hget c1 xs hh
          rw [eq_of_heq hh]
          intro e; rw [List.append_eq_nil_iff] at e; rw [e.2] at e3; simp at e3
      · subst e2
        cases hx with
        | bl1 ho hk =>
          refine ⟨?_, fun c1 xs hh => ?_⟩
          · have := h3.tg j o e hj'
            have hble : Nat.ble H'.length H.length = true := by simpa using e1
            unfold tagIf
            rw [hble]
            exact (this.2 p (Emb.ext ho)).1
          · obtain ⟨rfl, hh⟩ := hget c1 xs hh
            rw [eq_of_heq hh]
            intro e; rw [List.append_eq_nil_iff] at e
            exact (htg p ho).2 _ olds (h8 _ _ _ rfl) e.1
    · cases hz
  · cases hz
theorem sdata_typed (ok : CodOk C) (r : RH C A ι S H) {e : Nat} {x : SV Θ} {a : AV} (hx : RV C ι x a) {K : SV Θ × SHeap Θ -> Prop} (h : (sDataB C S e x).den K) :
    ∃ v S' b, (match a with
      | .v (.slice none 0 0) => some (.v (.pointer none), H)
      | .sl _ o off len _ => if len = 0 then none else some (.ptr o off, H)
      | _ => none) = some (b, H) ∧ RV C ι v b ∧ RH C A ι S' H ∧ K (v, S') := by
  unfold sDataB at h
  split at h
  · rename_i c o len
    split at h
    · rename_i c' xs h8 ht hcs
      split at h
      · rename_i hc
        have := nbeq_true hc
        subst this
        obtain ⟨h1, h2⟩ := h
        obtain ⟨j, hj⟩ := sTag_get ht
        rw [nth_get] at hcs
        cases hx with
        | bl0 ho => exact ⟨_, _, _, rfl, .sd0 ho, r, h2⟩
        | bl1 ho hk =>
          have hne := ((r.tg j o e hj).2 _ ho).2 _ xs hcs
          have : len ≠ 0 := by rw [h1]; intro e; exact hne (List.length_eq_zero_iff.1 e)
          exact ⟨_, _, _, by simp only; rw [if_neg this], .sd1 ho, r, h2⟩
      · exact h.elim
    · exact h.elim
  · exact h.elim
theorem ustr_typed (ok : CodOk C) (r : RH C A ι S H) {e : Nat} {x n : SV Θ} {a b : AV} (hx : RV C ι x a) (hn : RV C ι n b) {K : SV Θ × SHeap Θ -> Prop} (h : (sUstr C S e x n).den K) :
    ∃ v S' d H', (match a, b with
    | .v (.pointer none), .v (.int .i64 k) => if k = 0 then some (AV.v (.string ⟨#[]⟩), H) else none
    | .ptr o off, .v (.int .i64 k) => match Nat.beq off 0 && tagged H o e with
      | true => match H[o]? with
        | some (.cells cs) => if 0 < k ∧ k.toNat <= cs.length ∧ k < 4611686018427387904 then match bytesOfA (cs.take k.toNat) with
            | some bs => some (.v (.string ⟨bs.toArray⟩), H.set o .dead)
            | none => none
          else none
        | _ => none
      | false => none
    | _, _ => none) = some (d, H') ∧ RV C ι v d ∧ RH C A ι S' H' ∧ K (v, S') := by
  unfold sUstr at h
  split at h
  · rename_i c o n
    split at h
    · rename_i c' xs h8 ht hcs
      split at h
      · rename_i hc
        have := nbeq_true hc
        subst this
        obtain ⟨⟨h1, h1'⟩, h2⟩ := h
        obtain ⟨j, hj⟩ := sTag_get ht
        rw [nth_get] at hcs
        cases hn
        cases hx with
        | sd0 ho =>
          have hx0 : xs = [] := by
            rcases r.nil o _ ho hcs with h | ⟨c', h⟩ | ⟨q, t, h⟩
            · cases h
            · cases h; rfl
            · cases h
          subst hx0
          refine ⟨_, _, .v (bytesV []), H, ?_, .s [], r.kill o, h2⟩
          simp only
          rw [if_pos (by simpa using h1)]
          rfl
        | @sd1 _ _ p ho =>
          obtain ⟨q1, q2⟩ := (r.tg j o e hj).2 _ ho
          have hne := q2 _ xs hcs
          have hpos : 0 < xs.length := List.length_pos_iff.2 hne
          obtain ⟨y, hy, hr⟩ := r.get ho (by rw [nth_get]; exact hcs) (by simp)
          cases hr with
          | arr _ _ ext =>
            obtain ⟨n0, _⟩ := ok.to8 c 0 h8
            have hsz := (ok.un8 c n0 h8).1
            have hfl := flat_length ok xs
            rw [hsz, Nat.mul_one] at hfl
            have hb := byteOf_flat ok h8 xs
            refine ⟨_, _, .v (bytesV (xs.map fun y => byteOf (C.cells c y))), H.set p .dead, ?_, .s _, ?_, h2⟩
            · simp only [q1, hy]
              subst h1
              have ht2 : (C.flat c xs ++ ext).take ((xs.length : Int)).toNat = C.flat c xs := by
                rw [Int.toNat_natCast, List.take_append_of_le_length (by omega), List.take_of_length_le (by omega)]
              rw [ht2]
              rw [if_pos ⟨by omega, by simp; omega, by omega⟩]
              simp only [hb, Nat.beq_refl, Bool.and_self, bytesV]
            · refine (r.kill o).drop ho (by rw [List.getElem?_set_self (getElem?_lt hcs)]) (fun o' hne h' => ?_) hy _
              rw [List.getElem?_set_ne (Ne.symm hne)]
              rcases r.inj o' o p h' ho with h5 | h5 | h5
              · exact absurd h5 hne
              · exact h5
              · rw [hcs] at h5; cases h5
      · exact h.elim
    · exact h.elim
  · exact h.elim
theorem decE_av (ok : CodOk C) {c : Nat} {x : SV Θ} {y : Θ c} (h : C.decE c x = some y) {a : AV} (hx : RV C ι x a) : a = C.avE c y := by
  unfold Cod.decE at h
  unfold Cod.avE
  split at h
  · rename_i n hl
    split at h
    · cases hx with
      | agg hlen hh =>
        rw [hl, ok.wr _ _ _ _ ι h ⟨hlen, hh⟩]; rfl
    · cases h
  · rename_i hl
    split at h
    · cases h
    · have := ok.wr _ _ _ _ ι h (RVs.cons hx .nil)
      rw [hl, <- this]; rfl
def encM (C : Cod Θ) (c d : Nat) (p : Θ c × Θ d) : AV × AV := (C.avE c p.1, C.avE d p.2)
theorem find_none (ok : CodOk C) {c d : Nat} {ks : List Leaf} (hk : C.kty c = some ks) {key : Θ c} : ∀ {es : List (Θ c × Θ d)}, mget es key = none -> ∀ i, findA ks (C.lay c).isSome (C.avE c key) (es.map (encM C c d)) i = some none := by
  intro es
  induction es with
  | nil => intro _ i; rfl
  | cons p es ih =>
    intro h i
    simp only [mget] at h
    split at h
    · cases h
    · rename_i hne
      have := ok.key c ks hk key p.1
      rw [show (@decide (key = p.1) (Classical.propDecidable _)) = false by simpa using fun h => hne h.symm] at this
      simp only [List.map_cons, findA, encM, this]
      exact ih h (i + 1)
theorem find_some (ok : CodOk C) {c d : Nat} {ks : List Leaf} (hk : C.kty c = some ks) {key : Θ c} {v : Θ d} : ∀ {es : List (Θ c × Θ d)}, mget es key = some v ->
    ∃ j, (∀ i, findA ks (C.lay c).isSome (C.avE c key) (es.map (encM C c d)) i = some (some (i + j, C.avE d v))) ∧ (∀ u, (es.map (encM C c d)).set j (C.avE c key, C.avE d u) = (mset es key u).map (encM C c d)) ∧
      (es.map (encM C c d)).eraseIdx j = (mdel es key).map (encM C c d) := by
  intro es
  induction es with
  | nil => intro h; cases h
  | cons p es ih =>
    intro h
    simp only [mget] at h
    have hq := ok.key c ks hk key p.1
    split at h
    · rename_i he
      cases h
      rw [show (@decide (key = p.1) (Classical.propDecidable _)) = true by simpa using he.symm] at hq
      refine ⟨0, fun i => ?_, fun u => ?_, ?_⟩
      · simp only [List.map_cons, findA, encM, hq, Nat.add_zero]
      · simp only [mset, if_pos he]; rfl
      · simp only [mdel, if_pos he]; rfl
    · rename_i hne
      rw [show (@decide (key = p.1) (Classical.propDecidable _)) = false by simpa using fun h => hne h.symm] at hq
      obtain ⟨j, h1, h2, h3⟩ := ih h
      refine ⟨j + 1, fun i => ?_, fun u => ?_, ?_⟩
      · simp only [List.map_cons, findA, encM, hq]
        have := h1 (i + 1)
        rw [show i + 1 + j = i + (j + 1) by omega] at this
        exact this
      · simp only [List.map_cons, List.set_cons_succ, h2, mset, if_neg hne]
      · simp only [List.map_cons, List.eraseIdx_cons_succ, h3, mdel, if_neg hne]
theorem mset_none {α β : Type} {key : α} {u : β} : ∀ {es : List (α × β)}, mget es key = none -> mset es key u = es ++ [(key, u)] := by
  intro es
  induction es with
  | nil => intro _; rfl
  | cons p es ih =>
    intro h
    simp only [mget] at h
    split at h
    · cases h
    · rename_i hne; simp only [mset, if_neg hne, ih h, List.cons_append]
theorem mdel_none {α β : Type} {key : α} : ∀ {es : List (α × β)}, mget es key = none -> mdel es key = es := by
  intro es
  induction es with
  | nil => intro _; rfl
  | cons p es ih =>
    intro h
    simp only [mget] at h
    split at h
    · cases h
    · rename_i hne; simp only [mdel, if_neg hne, ih h]
theorem self_key (ok : CodOk C) {c : Nat} {ks : List Leaf} (hk : C.kty c = some ks) (key : Θ c) : selfEq ks (C.lay c).isSome (C.avE c key) = true := by
  unfold selfEq
  rw [ok.key c ks hk key key]
  simp
theorem pair_rv {ok : Bool} {v : SV Θ} {a : AV} {b : Bool} (h : RV C ι v a) : RV C ι (pairS ok v b) (if ok then .tup [a, .v (.bool b)] else a) := by
  cases ok
  · exact h
  · exact .tup rfl fun i x y hx hy => by
      match i, hx, hy with
      | 0, hx, hy => simp at hx hy; subst hx; subst hy; exact h
      | 1, hx, hy => simp at hx hy; subst hx; subst hy; exact .kb _
theorem NE.map {x0 : SO Θ} {c d : Nat} {es : List (Θ c × Θ d)} : NE x0 (.map c d es) := fun c xs h => by cases h
theorem map_typed (ok : CodOk C) (r : RH C A ι S H) {ρ : SEnv Θ} {e : Env} (he : RE C ι ρ e) {hh : Nat} {op : YOp} {K : SV Θ × SHeap Θ -> Prop} (h : (sY C hh ρ S op).den K) :
    ∃ v S' L a H', op.run e H = some (a, H') ∧ RV C (ι ++ L) v a ∧ RH C A (ι ++ L) S' H' ∧ K (v, S') := by
  have z : ∀ {x : SV Θ} {a : AV}, RV C ι x a -> RV C (ι ++ []) x a := fun h => h.mono []
  have zr : ∀ {S : SHeap Θ} {H : Heap}, RH C A ι S H -> RH C A (ι ++ []) S H := fun h => by rw [List.append_nil]; exact h
  have getM : ∀ {m : AX} {o : Nat} {c d : Nat} {es : List (Θ c × Θ d)}, sev ρ m = .mp o -> sNth S o = some (.map c d es) -> ∃ p, m.ev e = .mp p ∧ ι[o]? = some (some p) ∧ H[p]? = some (.map (es.map (encM C c d))) := by
    intro m o c d es hm hs
    have hx := rv_sev he m
    rw [hm] at hx
    generalize m.ev e = a at hx
    cases hx with
    | mp ho =>
      obtain ⟨y, hy, hr⟩ := r.get ho hs (by simp)
      cases hr with
      | map _ _ _ => exact ⟨_, rfl, ho, hy⟩
  cases op with
  | mk =>
    refine ⟨_, _, [some H.length], _, _, rfl, .mp (by rw [List.getElem?_append_right (by rw [r.len]; exact Nat.le_refl _)]; simp [r.len]), r.push (.map _ _ []), h⟩
  | look ks agg ok' zz m k =>
    simp only [sY] at h
    split at h
    · rename_i o hm
      split at h
      · rename_i c d es hs
        split at h
        · rename_i ks' key hks hkey
          split at h
          · rename_i hd
            obtain ⟨rfl, rfl⟩ := of_decide_eq_true hd
            obtain ⟨p, e1, ho, hp⟩ := getM hm hs
            have hk := decE_av ok hkey (rv_sev he k)
            have hself := self_key ok hks key
            have hmap : mapA H (.mp p) = some (es.map (encM C c d)) := by simp [mapA, hp]
            cases hg : mget es key with
            | none =>
              have h2 := h.2 (by simp [mhas, hg])
              refine ⟨_, _, [], _, H, ?_, z (pair_rv (rv_sofA zz)), zr r, h2⟩
              simp only [YOp.run, e1, hk, hself, hmap, find_none ok hks hg 0]
            | some v =>
              obtain ⟨v', hv, h2⟩ := h.1 (by simp [mhas, hg])
              rw [hg] at hv
              cases hv
              obtain ⟨j, h3, _, _⟩ := find_some ok hks hg
              refine ⟨_, _, [], _, H, ?_, z (pair_rv (wrap_rv ok v)), zr r, h2⟩
              simp only [YOp.run, e1, hk, hself, hmap, h3 0]
          · exact h.elim
        · exact h.elim
      · exact h.elim
    · exact h.elim
  | upd ks agg m k x =>
    simp only [sY] at h
    split at h
    · rename_i o hm
      split at h
      · rename_i c d es hs
        split at h
        · rename_i ks' key val hks hkey hval
          split at h
          · rename_i hd
            obtain ⟨rfl, rfl⟩ := of_decide_eq_true hd
            obtain ⟨p, e1, ho, hp⟩ := getM hm hs
            have hk := decE_av ok hkey (rv_sev he k)
            have hv := decE_av ok hval (rv_sev he x)
            have hself := self_key ok hks key
            have hs' : S[o]? = some (.map c d es) := by rw [<- nth_get]; exact hs
            refine ⟨_, _, [], _, _, ?_, z (.v _), zr (r.set ho hs' (by simp) (.map c d (mset es key val)) NE.map), h⟩
            simp only [YOp.run, e1, hk, hv, hself, hp]
            cases hg : mget es key with
            | none =>
              rw [find_none ok hks hg 0]
              simp only [mset_none hg, List.map_append, List.map_cons, List.map_nil]
              rfl
            | some u =>
              obtain ⟨j, h3, h4, _⟩ := find_some ok hks hg
              rw [h3 0]
              simp only [Nat.zero_add, h4 val]
              rfl
          · exact h.elim
        · exact h.elim
      · exact h.elim
    · exact h.elim
  | del ks agg m k =>
    simp only [sY] at h
    split at h
    · rename_i o hm
      split at h
      · rename_i c d es hs
        split at h
        · rename_i ks' key hks hkey
          split at h
          · rename_i hd
            obtain ⟨rfl, rfl⟩ := of_decide_eq_true hd
            obtain ⟨p, e1, ho, hp⟩ := getM hm hs
            have hk := decE_av ok hkey (rv_sev he k)
            have hself := self_key ok hks key
            have hs' : S[o]? = some (.map c d es) := by rw [<- nth_get]; exact hs
            refine ⟨.v (.tuple #[]), S.set o (.map c d (mdel es key)), [], .v (.tuple #[]), H.set p (.map ((mdel es key).map (encM C c d))), ?_, z (.v _), zr (r.set ho hs' (by simp) (.map c d (mdel es key)) NE.map), h⟩
            simp only [YOp.run, e1, hk, hself, hp]
            cases hg : mget es key with
            | none =>
              rw [find_none ok hks hg 0]
              simp only [mdel_none hg]
              congr 2
              apply List.ext_getElem?
              intro i
              rw [List.getElem?_set]
              by_cases e2 : p = i
              · subst e2; rw [if_pos rfl, if_pos (getElem?_lt hp), hp]
              · rw [if_neg e2]
            | some u =>
              obtain ⟨j, h3, _, h5⟩ := find_some ok hks hg
              rw [h3 0]
              simp only [Nat.zero_add, h5]
          · exact h.elim
        · exact h.elim
      · exact h.elim
    · exact h.elim
  | len m =>
    simp only [sY] at h
    split at h
    · rename_i o hm
      split at h
      · rename_i c d es hs
        obtain ⟨p, e1, ho, hp⟩ := getM hm hs
        refine ⟨_, _, [], .v (.int .i64 (es.length : Nat)), H, ?_, z (.i _ _), zr r, h⟩
        simp [YOp.run, e1, mapA, hp]
      · exact h.elim
    · exact h.elim
theorem mem_typed (ok : CodOk C) (r : RH C A ι S H) {ρ : SEnv Θ} {e : Env} (he : RE C ι ρ e) {hh : Nat} {op : MOp} {K : SV Θ × SHeap Θ -> Prop} (h : (sM C hh ρ S op).den K) :
    ∃ v S' L a H', op.run e H = some (a, H') ∧ RV C (ι ++ L) v a ∧ RH C A (ι ++ L) S' H' ∧ K (v, S') := by
  have z : ∀ {x : SV Θ} {a : AV}, RV C ι x a -> RV C (ι ++ []) x a := fun h => h.mono []
  have zr : ∀ {S : SHeap Θ} {H : Heap}, RH C A ι S H -> RH C A (ι ++ []) S H := fun h => by rw [List.append_nil]; exact h
  unfold sM at h
  split at h
  · exact map_typed ok r he h
  · rename_i x; exact ⟨_, _, [], _, _, rfl, z (rv_sev he x), zr r, h⟩
  · rename_i sz zs x
    have hx := rv_sev he x
    split at h
    · rename_i c o off len cap hk
      rw [hk] at hx
      split at h
      · rename_i c' xs z0 hsz hcs hz
        split at h
        · rename_i ys hys
          obtain ⟨e', he'⟩ := cast_some hys
          subst e'
          have he' : ys = xs := he'
          subst he'
          obtain ⟨h1, h2⟩ := h
          have hsz' := nbeq_true hsz
          have hzs : zs = C.avs c' z0 := ok.wr _ _ _ _ ι hz (rv_sofL zs)
          have hzl : zs.length = C.sz c' := by rw [hzs, ok.len]
          have hrep : repA len zs = C.flat c' (List.replicate len z0) := by rw [hzs, repA_flat]
          simp only [MOp.run, XOp.run]
          generalize x.ev e = a at hx
          cases hx with
          | slNil ho hc ha =>
            refine ⟨_, _, [], _, H, ?_, z (.v _), zr ?_, h2⟩
            · rcases ha with rfl | rfl <;> rfl
            · have hid : S.set o (.arr c' (ys.take 0 ++ (List.replicate 0 z0 ++ ys.drop (0 + 0)))) = S := by
                apply List.ext_getElem?
                intro i
                rw [nth_get] at hcs
                by_cases e : o = i
                · subst e; rw [List.getElem?_set_self (getElem?_lt hcs), hcs]; simp
                · rw [List.getElem?_set_ne e]
              rw [hid]; exact r
          | @sl _ _ _ _ _ acap p ho hk hc' =>
            obtain ⟨y, hy, hr⟩ := r.get ho hcs (by simp)
            cases hr with
            | arr _ _ ext =>
              simp only [if_pos hsz']
              have hfl := flat_length ok ys
              by_cases h0 : len = 0
              · subst h0
                refine ⟨_, _, [], _, _, by rw [if_pos rfl], z (.v _), zr ?_, h2⟩
                have hid : S.set o (.arr c' (ys.take off ++ (List.replicate 0 z0 ++ ys.drop (off + 0)))) = S := by
                  apply List.ext_getElem?
                  intro i
                  rw [nth_get] at hcs
                  by_cases e : o = i
                  · subst e; rw [List.getElem?_set_self (getElem?_lt hcs), hcs]; simp
                  · rw [List.getElem?_set_ne e]
                rw [hid]; exact r
              · rw [if_neg h0, hy]
                simp only
                have hmul : off * C.sz c' + len * C.sz c' = (off + len) * C.sz c' := (Nat.add_mul _ _ _).symm
                have hle : (off + len) * C.sz c' <= ys.length * C.sz c' := Nat.mul_le_mul_right _ h1
                rw [if_pos (by rw [<- hsz']; simp; omega)]
                refine ⟨_, _, [], _, _, rfl, z (.v _), zr (r.set ho (by rw [<- nth_get]; exact hcs) (by simp) ?_ (fun c1 xs1 e1 e2 => by cases e1; exact ⟨_, by congr 1; exact ne_mid h1 e2⟩)), h2⟩
                have hset : setsA (C.flat c' ys ++ ext) (off * C.sz c') (repA len zs) = C.flat c' (ys.take off ++ (List.replicate len z0 ++ ys.drop (off + len))) ++ ext := by
                  rw [hrep, flat_append, flat_append]
                  have e1 : ys = ys.take off ++ ((ys.drop off).take len ++ ys.drop (off + len)) := by
                    rw [<- List.drop_drop, List.take_append_drop, List.take_append_drop]
                  conv => lhs; rw [e1]
                  rw [flat_append, flat_append, List.append_assoc, List.append_assoc]
                  have l1 : (C.flat c' (ys.take off)).length = off * C.sz c' := by rw [flat_length ok]; simp; rw [Nat.min_eq_left (by omega)]
                  have l2 : (C.flat c' ((ys.drop off).take len)).length = len * C.sz c' := by rw [flat_length ok]; simp; rw [Nat.min_eq_left (by omega)]
                  have l3 : (C.flat c' (List.replicate len z0)).length = len * C.sz c' := by rw [flat_length ok]; simp
                  have := setsA_app (C.flat c' (List.replicate len z0)) (C.flat c' (ys.take off)) (C.flat c' ((ys.drop off).take len)) (C.flat c' (ys.drop (off + len)) ++ ext) 0 (by omega)
                  rw [Nat.add_zero, l1] at this
                  rw [this]
                  have hs0 : setsA (C.flat c' ((ys.drop off).take len)) 0 (C.flat c' (List.replicate len z0)) = C.flat c' (List.replicate len z0) := by
                    apply List.ext_getElem?
                    intro i
                    rw [setsA_get _ _ _ (by omega)]
                    by_cases hi : i < len * C.sz c'
                    · rw [if_pos (by omega)]; simp
                    · rw [if_neg (by omega), List.getElem?_eq_none (by omega), List.getElem?_eq_none (by omega)]
                  rw [hs0]; simp
                rw [hset]
                exact .arr c' _ ext
        · exact h.elim
      · exact h.elim
    · exact h.elim
  · rename_i t zs
    split at h
    · rename_i hb
      have hzs : zs = [.v (.pointer none), nilSl] := by
        unfold isBld at hb
        split at hb
        · rfl
        · cases hb
      subst hzs
      have r1 := r.pushNil hh
      have r2 := r1.push (x := .box [.self (S.length + 1), .bl hh S.length 0]) (y := .cells [.v (.pointer none), nilSl]) (.box (.cons .self0 (.cons (.bl0 (by rw [<- r.len]; simp)) .nil)))
      have r3 := (r2.grow (.tag H.length t)).pushN (x := .tag (S.length + 1) t) (.inr ⟨_, _, rfl, by simp, fun p hp => ⟨?_, fun c xs hx => ?_⟩⟩)
      · have r4 := r3.pushN (x := .tag S.length hh) (.inr ⟨_, _, rfl, by simp, fun p hp => ?_⟩)
        · refine ⟨_, _, [none, some H.length, none, none], .ptr H.length 0, _, rfl, .ptr (by rw [<- r.len]; simp), ?_, h⟩
          simpa using r4
        · rw [<- r.len] at hp; simp at hp
      · rw [<- r.len] at hp
        simp at hp
        subst hp
        exact tagged_of (i := H.length + 1) (by simp)
      · simp at hx
    · exact h.elim
  · rename_i t x y
    split at h
    · rename_i l z0 hk h8 hz
      have hy := rv_sev he y
      rw [hk] at hy
      obtain ⟨h1, h2⟩ := flat_bytes ok h8 l
      obtain ⟨n0, _⟩ := ok.to8 hh 0 h8
      have hsz := (ok.un8 hh n0 h8).1
      obtain ⟨v, S', L, b, H', h3, h4, h5, h6⟩ := appT_typed ok r (by rw [hsz]; exact Nat.one_pos) (rv_sev he x) hz h
      refine ⟨v, S', L, b, _, ?_, h4, h5, h6⟩
      rw [hsz, h1, h2] at h3
      simp only [MOp.run, XOp.run]
      generalize y.ev e = a at hy
      cases hy
      simp only [bytesV]
      have : (⟨l.toArray⟩ : ByteArray).size = l.length := by simp [ByteArray.size]
      rw [this, h3]
    · exact h.elim
  · rename_i x
    obtain ⟨v, S', b, h1, h2, h3, h4⟩ := sdata_typed ok r (rv_sev he x) h
    exact ⟨v, S', [], b, H, by simp only [MOp.run, XOp.run]; exact h1, z h2, zr h3, h4⟩
  · rename_i t x n
    obtain ⟨v, S', b, H', h1, h2, h3, h4⟩ := ustr_typed ok r (rv_sev he x) (rv_sev he n) h
    exact ⟨v, S', [], b, H', by simp only [MOp.run, XOp.run]; exact h1, z h2, zr h3, h4⟩
  · rename_i l x
    have h := Cm.den_bind h
    obtain ⟨v, b, h1, h2, h3⟩ := load_typed ok r (rv_sev he x) h
    exact ⟨v, S, [], b, H, by simp only [MOp.run, h1, Option.map_some], z h2, zr r, h3⟩
  · rename_i zs
    exact ⟨_, _, [some H.length], _, _, rfl, .ptr (by rw [<- r.len]; simp), r.push (.box (rv_sofL zs)), h⟩
  · rename_i x
    split at h
    · rename_i cs hcs
      obtain ⟨as, h1, h2⟩ := rv_flat (rv_sev he x) hcs
      exact ⟨_, _, [some H.length], .ptr H.length 0, H ++ [.cells as], by simp only [MOp.run, h1], .ptr (by rw [<- r.len]; simp), r.push (.box (h2.mono _)), h⟩
    · exact h.elim
  · rename_i sz len zs parts
    split at h
    · rename_i cs hsz hcs
      split at h
      · rename_i xs hxs
        have hsz' := nbeq_true hsz
        obtain ⟨bs, h1, h2⟩ := sfill_sound (rv_sofL zs) (parts_sound he parts).1 (parts_sound he parts).2 hcs
        obtain ⟨h3, h4⟩ := decs_sound ok hxs h2
        refine ⟨_, _, [some H.length], .sl sz H.length 0 len (some len), H ++ [.cells bs], by simp only [MOp.run, h1], ?_, ?_, h⟩
        · have := RV.sl (C := C) (ι := ι ++ [some H.length]) (c := hh) (o := S.length) (off := 0) (len := len) (cap := none) (acap := some len) (p := H.length) (by rw [<- r.len]; simp) (fun k h => by cases h; exact Nat.le_refl _) (.inr rfl)
          rw [Nat.zero_mul, hsz'] at this
          exact this
        · refine r.push ?_
          have := RObj.arr (C := C) (ι := ι ++ [some H.length]) hh xs []
          rw [List.append_nil, <- h3] at this
          exact this
      · split at h
        · rename_i xs hxs hle
          have hsz' := nbeq_true hsz
          have hle' := Nat.le_of_ble_eq_true hle
          obtain ⟨bs, h1, h2⟩ := sfill_sound (rv_sofL zs) (parts_sound he parts).1 (parts_sound he parts).2 hcs
          obtain ⟨h3, h4⟩ := decsN_sound ok hxs h2
          refine ⟨_, _, [some H.length], .sl sz H.length 0 len (some len), H ++ [.cells bs], by simp only [MOp.run, h1], ?_, ?_, h⟩
          · have := RV.sl (C := C) (ι := ι ++ [some H.length]) (c := hh) (o := S.length) (off := 0) (len := len) (cap := none) (acap := some len) (p := H.length) (by rw [<- r.len]; simp) (fun k h => by cases h; exact Nat.le_refl _) (.inr rfl)
            rw [Nat.zero_mul, hsz'] at this
            exact this
          · refine r.push (.raw (fun e => by rw [e, List.length_nil] at h4; omega) [] ?_)
            rw [List.append_nil]; exact h3
        · exact h.elim
    · exact h.elim
  · rename_i sz bytes zs len cap
    have hl := rv_sev he len
    have hc := rv_sev he cap
    split at h
    · rename_i k n k' m z0 e1 e2 hsz hz
      rw [e1] at hl
      rw [e2] at hc
      obtain ⟨h1, h2⟩ := h
      have h2 : K (.sl hh S.length 0 (List.replicate n.toNat z0).length none, S ++ [.arr hh (List.replicate n.toNat z0)]) := h2
      rw [List.length_replicate] at h2
      have hsz' := nbeq_true hsz
      have hzs : zs = C.avs hh z0 := ok.wr _ _ _ _ ι hz (rv_sofL zs)
      have hrep : ∀ q, repA q zs = C.flat hh (List.replicate q z0) := fun q => by rw [hzs, repA_flat]
      simp only [MOp.run]
      generalize len.ev e = a at hl
      generalize cap.ev e = b at hc
      cases hl; cases hc
      refine ⟨_, _, [some H.length], .sl sz H.length 0 n.toNat (some m.toNat), H ++ [.cells (repA m.toNat zs)], by simp only; rw [if_pos h1], ?_, ?_, h2⟩
      · have := RV.sl (C := C) (ι := ι ++ [some H.length]) (c := hh) (o := S.length) (off := 0) (len := n.toNat) (cap := none) (acap := some m.toNat) (p := H.length) (by rw [<- r.len]; simp) (fun k h => by cases h; omega) (.inr rfl)
        rw [Nat.zero_mul, hsz'] at this
        exact this
      · refine r.push ?_
        have := RObj.arr (C := C) (ι := ι ++ [some H.length]) hh (List.replicate n.toNat z0) (C.flat hh (List.replicate (m.toNat - n.toNat) z0))
        rw [<- flat_append, List.replicate_append_replicate, show n.toNat + (m.toNat - n.toNat) = m.toNat by omega, <- hrep] at this
        exact this
    · rename_i k n k' m e1 e2 hsz hz
      split at h
      · rename_i z0 hz0
        rw [e1] at hl
        rw [e2] at hc
        obtain ⟨h1, h2⟩ := h
        have h2 : K (.sl hh S.length 0 (List.replicate n.toNat z0).length none, S ++ [.raw hh (List.replicate n.toNat z0)]) := h2
        rw [List.length_replicate] at h2
        have hsz' := nbeq_true hsz
        have hnil := ok.zer _ _ _ _ ι hz0 (rv_sofL zs)
        simp only [MOp.run]
        generalize len.ev e = a at hl
        generalize cap.ev e = b at hc
        cases hl; cases hc
        refine ⟨_, _, [some H.length], .sl sz H.length 0 n.toNat (some m.toNat), H ++ [.cells (repA m.toNat zs)], by simp only; rw [if_pos ⟨by omega, h1.2⟩], ?_, ?_, h2⟩
        · have := RV.sl (C := C) (ι := ι ++ [some H.length]) (c := hh) (o := S.length) (off := 0) (len := n.toNat) (cap := none) (acap := some m.toNat) (p := H.length) (by rw [<- r.len]; simp) (fun k h => by cases h; omega) (.inr rfl)
          rw [Nat.zero_mul, hsz'] at this
          exact this
        · refine r.push (.raw (fun e => by have := congrArg List.length e; simp at this; omega) (C.flat hh (List.replicate (m.toNat - n.toNat) z0)) ?_)
          rw [<- flat_append, List.replicate_append_replicate, show n.toNat + (m.toNat - n.toNat) = m.toNat by omega, <- repA_flat]
          exact NilAs.rep hnil m.toNat
      · exact h.elim
    · exact h.elim
  · rename_i l x y
    split at h
    · rename_i vs hvs
      have h := Cm.den_bind h
      obtain ⟨as, h1, h2⟩ := rv_flat (rv_sev he y) hvs
      obtain ⟨S', H', h3, h4, h5⟩ := store_typed ok r (rv_sev he x) h1 h2 h
      exact ⟨_, _, [], _, H', by simp only [MOp.run, h3, Option.map_some]; rfl, z (.v _), zr h4, h5⟩
    · exact h.elim
  · rename_i sz bytes x y
    split at h
    · rename_i hsz hpos
      have hsz' := nbeq_true hsz
      have hpos' : 0 < sz := Nat.le_of_ble_eq_true hpos
      have h := Cm.den_bind h
      obtain ⟨news, h1, h2⟩ := src_typed ok r (rv_sev he y) h
      obtain ⟨v, S', L, b, H', h3, h4, h5, h6⟩ := app_typed ok r (by rw [hsz']; exact hpos') (rv_sev he x) h2
      refine ⟨v, S', L, b, H', ?_, h4, h5, h6⟩
      simp only [MOp.run]
      rw [<- hsz', h1]
      exact h3
    · exact h.elim
  · rename_i sz x y
    have hx := rv_sev he x
    split at h
    · rename_i c o off len cap hk
      rw [hk] at hx
      split at h
      · rename_i hsz
        have hsz' := nbeq_true hsz
        have h := Cm.den_bind h
        obtain ⟨news, h1, h⟩ := src_typed ok r (rv_sev he y) h
        split at h
        · rename_i c' xs hcs
          split at h
          · rename_i ys hys
            obtain ⟨e', he'⟩ := cast_some hys
            subst e'
            have he' : ys = xs := he'
            subst he'
            obtain ⟨h3, h4⟩ := h
            simp only [MOp.run]
            rw [<- hsz', h1]
            simp only
            generalize x.ev e = a at hx
            cases hx with
            | slNil ho hc ha =>
              refine ⟨_, _, [], _, H, ?_, z (.i .i64 ((min news.length 0 : Nat) : Int)), zr ?_, h4⟩
              · rcases ha with rfl | rfl <;> simp [copyA, nilSl]
              · have hid : S.set o (.arr c' (ys.take 0 ++ (news.take (min news.length 0) ++ ys.drop (0 + min news.length 0)))) = S := by
                  apply List.ext_getElem?
                  intro i
                  rw [nth_get] at hcs
                  by_cases e : o = i
                  · subst e; rw [List.getElem?_set_self (getElem?_lt hcs), hcs]; simp
                  · rw [List.getElem?_set_ne e]
                rw [hid]; exact r
            | @sl _ _ _ _ _ acap p ho hk hc' =>
              obtain ⟨y, hy, hr⟩ := r.get ho hcs (by simp)
              cases hr with
              | arr _ _ ext =>
                simp only [copyA, if_true]
                have hfl := flat_length ok ys
                by_cases h0 : min news.length len = 0
                · rw [if_pos h0]
                  refine ⟨_, _, [], _, _, rfl, by rw [h0]; exact z (.i _ _), zr ?_, h4⟩
                  have hid : S.set o (.arr c' (ys.take off ++ (news.take (min news.length len) ++ ys.drop (off + min news.length len)))) = S := by
                    apply List.ext_getElem?
                    intro i
                    rw [nth_get] at hcs
                    by_cases e : o = i
                    · subst e; rw [List.getElem?_set_self (getElem?_lt hcs), hcs, h0]; simp
                    · rw [List.getElem?_set_ne e]
                  rw [hid]; exact r
                · rw [if_neg h0, hy]
                  simp only
                  generalize hq : min news.length len = q at h0 h4 ⊢
                  have hq1 : q <= news.length := by omega
                  have hq2 : q <= len := by omega
                  have hmul : off * C.sz c' + q * C.sz c' = (off + q) * C.sz c' := (Nat.add_mul _ _ _).symm
                  have hle : (off + q) * C.sz c' <= ys.length * C.sz c' := Nat.mul_le_mul_right _ (by omega)
                  have hone := flat_one ok news
                  rw [if_pos ⟨by simp; omega, by rw [List.all_eq_true] at hone ⊢; exact fun a ha => hone a (List.mem_of_mem_take ha)⟩]
                  refine ⟨_, _, [], _, _, rfl, z (.i _ _), zr (r.set ho (by rw [<- nth_get]; exact hcs) (by simp) ?_ (fun c1 xs1 e1 e2 => by cases e1; exact ⟨_, by congr 1; exact ne_mid2 (by omega) (by omega) e2⟩)), h4⟩
                  have hnews : (C.flat c' news).take (q * C.sz c') = C.flat c' (news.take q) := by
                    have := flat_take ok news q hq1 []
                    rwa [List.append_nil] at this
                  have hset : setsA (C.flat c' ys ++ ext) (off * C.sz c') (C.flat c' (news.take q)) = C.flat c' (ys.take off ++ (news.take q ++ ys.drop (off + q))) ++ ext := by
                    rw [flat_append, flat_append]
                    have e1 : ys = ys.take off ++ ((ys.drop off).take q ++ ys.drop (off + q)) := by
                      rw [<- List.drop_drop, List.take_append_drop, List.take_append_drop]
                    conv => lhs; rw [e1]
                    rw [flat_append, flat_append, List.append_assoc, List.append_assoc]
                    have l1 : (C.flat c' (ys.take off)).length = off * C.sz c' := by rw [flat_length ok]; simp; rw [Nat.min_eq_left (by omega)]
                    have l2 : (C.flat c' ((ys.drop off).take q)).length = q * C.sz c' := by rw [flat_length ok]; simp; rw [Nat.min_eq_left (by omega)]
                    have l3 : (C.flat c' (news.take q)).length = q * C.sz c' := by rw [flat_length ok]; simp; rw [Nat.min_eq_left hq1]
                    have := setsA_app (C.flat c' (news.take q)) (C.flat c' (ys.take off)) (C.flat c' ((ys.drop off).take q)) (C.flat c' (ys.drop (off + q)) ++ ext) 0 (by omega)
                    rw [Nat.add_zero, l1] at this
                    rw [this]
                    have hs0 : setsA (C.flat c' ((ys.drop off).take q)) 0 (C.flat c' (news.take q)) = C.flat c' (news.take q) := by
                      apply List.ext_getElem?
                      intro i
                      rw [setsA_get _ _ _ (by omega)]
                      by_cases hi : i < q * C.sz c'
                      · rw [if_pos (by omega)]; simp
                      · rw [if_neg (by omega), List.getElem?_eq_none (by omega), List.getElem?_eq_none (by omega)]
                    rw [hs0]; simp
                  rw [hnews, hset]
                  exact .arr c' _ ext
          · exact h.elim
        · exact h.elim
      · exact h.elim
    · exact h.elim
  · rename_i x
    have hx := rv_sev he x
    split at h
    · rename_i hk; rw [hk] at hx
      refine ⟨_, _, [], .v (bytesV []), H, ?_, z (.s []), zr r, h⟩
      simp only [MOp.run]
      generalize x.ev e = a at hx
      cases hx; rfl
    · rename_i hk; rw [hk] at hx
      refine ⟨_, _, [], .v (bytesV []), H, ?_, z (.s []), zr r, h⟩
      simp only [MOp.run]
      generalize x.ev e = a at hx
      cases hx; rfl
    · split at h
      · rename_i h8
        obtain ⟨news, h1, h2⟩ := src_typed ok r hx (Cm.den_bind h)
        have hb := byteOf_flat ok h8 news
        refine ⟨_, _, [], .v (bytesV (news.map fun y => byteOf (C.cells (cod8 (sev ρ x)) y))), H, ?_, z (.s _), zr r, h2⟩
        obtain ⟨n0, _⟩ := ok.to8 (cod8 (sev ρ x)) 0 h8
        have h0 := (ok.un8 _ n0 h8).1
        simp only [MOp.run]
        rw [h0] at h1
        rw [h1]
        simp only [hb, Option.map_some, bytesV]
      · exact h.elim
  · rename_i x
    have hx := rv_sev he x
    split at h
    · rename_i l hk h8 hlay; rw [hk] at hx
      obtain ⟨h1, h2⟩ := flat_bytes ok h8 l
      have h : K (.lst hh (l.filterMap fun b => C.dec hh [.i .u8 (b.toNat : Int)]), S) := h
      obtain ⟨n0, _⟩ := ok.to8 hh 0 h8
      have hsz := (ok.un8 hh n0 h8).1
      refine ⟨_, _, [], .lst 1 (byteCells ⟨l.toArray⟩), H ++ [.dead], ?_, ?_, zr (r.grow .dead), h⟩
      · simp only [MOp.run]
        generalize x.ev e = a at hx
        cases hx
        simp only [bytesV]
      · have := RV.lst (C := C) (ι := ι) hh (l.filterMap fun b => C.dec hh [.i .u8 (b.toNat : Int)])
        rw [hsz, <- flat_avE ok hlay hsz, h1] at this
        exact z this
    · exact h.elim
  · rename_i x y
    have hy := rv_sev he y
    split at h
    · rename_i l hk h8; rw [hk] at hy
      obtain ⟨h1, h2⟩ := flat_bytes ok h8 l
      obtain ⟨n0, _⟩ := ok.to8 hh 0 h8
      have hsz := (ok.un8 hh n0 h8).1
      obtain ⟨v, S', L, b, H', h3, h4, h5, h6⟩ := app_typed ok r (by rw [hsz]; exact Nat.one_pos) (rv_sev he x) h
      refine ⟨v, S', L, b, H', ?_, h4, h5, h6⟩
      rw [hsz, h1, h2] at h3
      simp only [MOp.run]
      generalize y.ev e = a at hy
      cases hy
      simp only [bytesV]
      have : (⟨l.toArray⟩ : ByteArray).size = l.length := by simp [ByteArray.size]
      rw [this]
      exact h3
    · exact h.elim
  · exact h.elim
end
end Go.Ab
