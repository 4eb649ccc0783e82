/- A part of a law's proof: SvBase. -/
import Derived.Test.YtjkcjbkkgkhljaaAbRun
set_option linter.constructorNameAsVariable false
/-
  Values whose parts are typed: what a symbolic run of code works on.
-/
namespace Go.Ab
open Go Go.RowKit
set_option linter.unusedVariables false
set_option linter.unusedSimpArgs false
inductive SV (Θ : Nat -> Type) where
  | any
  | i (k : IntKind) (x : Int)
  | b (x : Bool)
  | kb (x : Bool)
  | s (l : List UInt8)
  | v (x : Value)
  | agg (cs : List (SV Θ))
  | tup (cs : List (SV Θ))
  | lst (c : Nat) (xs : List (Θ c))
  | rp (x : SV Θ)
  | sl (c o off len : Nat) (cap : Option Nat)
  | z0
  | ptr (o off : Nat)
  | eptr (c o i off : Nat)
  | fn (f : Nat) (cs : List (SV Θ))
  | mp (o : Nat)
  | ifc (t : Nat) (x : SV Θ)
  | self (o : Nat)
  | sd (c o : Nat)
  | bl (c o len : Nat)
inductive SO (Θ : Nat -> Type) where
  | box (cs : List (SV Θ))
  | arr (c : Nat) (xs : List (Θ c))
  | map (c d : Nat) (es : List (Θ c × Θ d))
  | dead
  | tag (o : Nat) (t : TypeId)
  | hole (c : Nat) (xs : List (Θ c)) (j : Nat) (cs : List (SV Θ))
  | raw (c : Nat) (xs : List (Θ c))
abbrev SHeap (Θ : Nat -> Type) := List (SO Θ)
abbrev SEnv (Θ : Nat -> Type) := List (Nat × SV Θ)
variable {Θ : Nat -> Type}
def SEnv.get : SEnv Θ -> Nat -> SV Θ
  | [], _ => .any
  | (k, x) :: r, t => match Nat.beq k t with
    | true => x
    | false => SEnv.get r t
structure Cod (Θ : Nat -> Type) where
  lay : Nat -> Option Nat
  cells : (c : Nat) -> Θ c -> List (SV Θ)
  dec : (c : Nat) -> List (SV Θ) -> Option (Θ c)
  ty8 : Nat -> Bool
  avs : (c : Nat) -> Θ c -> List AV
  kty : Nat -> Option (List Leaf)
  zer : (c : Nat) -> List (SV Θ) -> Option (Θ c)
def Cod.sz (C : Cod Θ) (c : Nat) : Nat := laySize (C.lay c)
def wrapA (l : Option Nat) (as : List AV) : AV :=
  match l with
  | some _ => .agg as
  | none => match as with
    | a :: _ => a
    | [] => .any
def wrapS (l : Option Nat) (as : List (SV Θ)) : SV Θ :=
  match l with
  | some _ => .agg as
  | none => match as with
    | a :: _ => a
    | [] => .any
def Cod.avE (C : Cod Θ) (c : Nat) (x : Θ c) : AV := wrapA (C.lay c) (C.avs c x)
def Cod.flat (C : Cod Θ) (c : Nat) (xs : List (Θ c)) : List AV := xs.flatMap (C.avs c)
def bytesV (l : List UInt8) : Value := .string ⟨l.toArray⟩
def nilSl : AV := .v (.slice none 0 0)
abbrev Emb := List (Option Nat)
inductive RV (C : Cod Θ) (ι : Emb) : SV Θ -> AV -> Prop
  | any (a : AV) : RV C ι .any a
  | i (k : IntKind) (x : Int) : RV C ι (.i k x) (.v (.int k x))
  | b (x : Bool) : RV C ι (.b x) (.v (.bool x))
  | kb (x : Bool) : RV C ι (.kb x) (.v (.bool x))
  | s (l : List UInt8) : RV C ι (.s l) (.v (bytesV l))
  | v (x : Value) : RV C ι (.v x) (.v x)
  | agg {cs : List (SV Θ)} {as : List AV} (hl : cs.length = as.length) (h : ∀ (i : Nat) (x : SV Θ) (a : AV), cs[i]? = some x -> as[i]? = some a -> RV C ι x a) : RV C ι (.agg cs) (.agg as)
  | tup {cs : List (SV Θ)} {as : List AV} (hl : cs.length = as.length) (h : ∀ (i : Nat) (x : SV Θ) (a : AV), cs[i]? = some x -> as[i]? = some a -> RV C ι x a) : RV C ι (.tup cs) (.tup as)
  | lst (c : Nat) (xs : List (Θ c)) : RV C ι (.lst c xs) (.lst (C.sz c) (xs.map (C.avE c)))
  | rp {x : SV Θ} {a : AV} (h : RV C ι x a) : RV C ι (.rp x) (.rp a)
  | sl {c o off len : Nat} {cap acap : Option Nat} {p : Nat} (ho : ι[o]? = some (some p)) (hk : ∀ k, acap = some k -> len <= k) (hc : cap = acap ∨ cap = none) : RV C ι (.sl c o off len cap) (.sl (C.sz c) p (off * C.sz c) len acap)
  | slNil {c o : Nat} {cap : Option Nat} {a : AV} (ho : ι[o]? = some none) (hc : cap = none ∨ cap = some 0) (ha : a = nilSl ∨ a = .z0) : RV C ι (.sl c o 0 0 cap) a
  | z0 : RV C ι .z0 .z0
  | ptr {o off p : Nat} (ho : ι[o]? = some (some p)) : RV C ι (.ptr o off) (.ptr p off)
  | eptr {c o j off p : Nat} (ho : ι[o]? = some (some p)) : RV C ι (.eptr c o j off) (.ptr p (j * C.sz c + off))
  | fn {f : Nat} {cs : List (SV Θ)} {as : List AV} (hl : cs.length = as.length) (h : ∀ (i : Nat) (x : SV Θ) (a : AV), cs[i]? = some x -> as[i]? = some a -> RV C ι x a) : RV C ι (.fn f cs) (.fn f as)
  | mp {o p : Nat} (ho : ι[o]? = some (some p)) : RV C ι (.mp o) (.mp p)
  | ifc {t : Nat} {x : SV Θ} {a : AV} (h : RV C ι x a) : RV C ι (.ifc t x) (.ifc t a)
  | self0 {o : Nat} : RV C ι (.self o) (.v (.pointer none))
  | self1 {o p : Nat} (ho : ι[o]? = some (some p)) : RV C ι (.self o) (.ptr p 0)
  | sd0 {c o : Nat} (ho : ι[o]? = some none) : RV C ι (.sd c o) (.v (.pointer none))
  | sd1 {c o p : Nat} (ho : ι[o]? = some (some p)) : RV C ι (.sd c o) (.ptr p 0)
  | bl0 {c o : Nat} (ho : ι[o]? = some none) : RV C ι (.bl c o 0) nilSl
  | bl1 {c o len p : Nat} {acap : Option Nat} (ho : ι[o]? = some (some p)) (hk : ∀ k, acap = some k -> len <= k) : RV C ι (.bl c o len) (.sl (C.sz c) p 0 len acap)
def RVs (C : Cod Θ) (ι : Emb) (cs : List (SV Θ)) (as : List AV) : Prop :=
  cs.length = as.length ∧ ∀ (i : Nat) (x : SV Θ) (a : AV), cs[i]? = some x -> as[i]? = some a -> RV C ι x a
def SV.shut : SV Θ -> Bool
  | .i _ _ | .b _ | .kb _ | .s _ | .v _ | .lst _ _ | .z0 => true
  | .agg cs => shutL cs
  | .tup cs => shutL cs
  | .rp x => x.shut
  | .fn _ cs => shutL cs
  | .ifc _ x => x.shut
  | _ => false
where
  shutL : List (SV Θ) -> Bool
  | [] => true
  | x :: xs => match x.shut with
    | true => shutL xs
    | false => false
def SV.av (C : Cod Θ) : SV Θ -> AV
  | .i k x => .v (.int k x)
  | .b x => .v (.bool x)
  | .kb x => .v (.bool x)
  | .s l => .v (bytesV l)
  | .v x => .v x
  | .agg cs => .agg (avL C cs)
  | .tup cs => .tup (avL C cs)
  | .lst c xs => .lst (C.sz c) (xs.map (C.avE c))
  | .rp x => .rp (x.av C)
  | .z0 => .z0
  | .fn f cs => .fn f (avL C cs)
  | .ifc t x => .ifc t (x.av C)
  | _ => .any
where
  avL (C : Cod Θ) : List (SV Θ) -> List AV
  | [] => []
  | x :: xs => x.av C :: avL C xs
theorem avL_map (C : Cod Θ) (xs : List (SV Θ)) : SV.av.avL C xs = xs.map (SV.av C) := by
  induction xs with
  | nil => rfl
  | cons x xs ih => simp [SV.av.avL, ih]
def NilAs (as bs : List AV) : Prop := as.length = bs.length ∧ ∀ (i : Nat) (a b : AV), as[i]? = some a -> bs[i]? = some b -> a = b ∨ (a = nilSl ∨ a = .z0) ∧ ∃ sz, b = .lst sz []
structure CodOk (C : Cod Θ) : Prop where
  len : ∀ c x, (C.avs c x).length = C.sz c
  one : ∀ c x a, a ∈ C.avs c x -> AV.one a = true
  shut : ∀ c x a, a ∈ C.avs c x -> AV.shut a = true
  rd : ∀ c x ι, RVs C ι (C.cells c x) (C.avs c x)
  wr : ∀ c l x as ι, C.dec c l = some x -> RVs C ι l as -> as = C.avs c x
  un8 : ∀ c x, C.ty8 c = true -> C.sz c = 1 ∧ ∃ n, C.cells c x = [.i .u8 n]
  to8 : ∀ c n, C.ty8 c = true -> ∃ x, C.dec c [.i .u8 n] = some x
  key : ∀ c ks, C.kty c = some ks -> ∀ x y, eqF ks (C.lay c).isSome (C.avE c x) (C.avE c y) = some (@decide (x = y) (Classical.propDecidable _))
  zer : ∀ c l x as ι, C.zer c l = some x -> RVs C ι l as -> NilAs as (C.avs c x)
theorem shutL_get : ∀ {xs : List (SV Θ)}, SV.shut.shutL xs = true -> ∀ (i : Nat) (x : SV Θ), xs[i]? = some x -> x.shut = true := by
  intro xs
  induction xs with
  | nil => intro h i x hx; simp at hx
  | cons y ys ih =>
    intro h i x hx
    simp only [SV.shut.shutL] at h
    split at h
    · rename_i hy
      cases i with
      | zero => simp at hx; subst hx; exact hy
      | succ i => exact ih h i x (by simpa using hx)
    · cases h
theorem list_eq_of_get {α : Type} {xs ys : List α} (hl : xs.length = ys.length) (h : ∀ (i : Nat) (x y : α), xs[i]? = some x -> ys[i]? = some y -> x = y) : xs = ys := by
  apply List.ext_getElem? 
  intro i
  cases hx : xs[i]? with
  | none =>
    rw [List.getElem?_eq_none_iff] at hx
    rw [List.getElem?_eq_none (by omega)]
  | some x =>
    have hi := getElem?_lt hx
    have hy : ys[i]? = some (ys[i]'(by omega)) := by simp [show i < ys.length by omega]
    rw [hy, h i x _ hx hy]
section
variable {C : Cod Θ} {ι : Emb}
theorem RV.eq_av {x : SV Θ} {a : AV} (h : RV C ι x a) : x.shut = true -> a = x.av C := by
  induction h with
  | agg hl _ ih =>
    intro hs
    simp only [SV.shut] at hs
    simp only [SV.av, avL_map, AV.agg.injEq]
    refine list_eq_of_get (by simp [hl]) fun i x y hx hy => ?_
    simp only [List.getElem?_map, Option.map_eq_some_iff] at hy
    obtain ⟨z, hz, rfl⟩ := hy
    exact ih i z x hz hx (shutL_get hs i z hz)
  | tup hl _ ih =>
    intro hs
    simp only [SV.shut] at hs
    simp only [SV.av, avL_map, AV.tup.injEq]
    refine list_eq_of_get (by simp [hl]) fun i x y hx hy => ?_
    simp only [List.getElem?_map, Option.map_eq_some_iff] at hy
    obtain ⟨z, hz, rfl⟩ := hy
    exact ih i z x hz hx (shutL_get hs i z hz)
  | fn hl _ ih =>
    intro hs
    simp only [SV.shut] at hs
    simp only [SV.av, avL_map, AV.fn.injEq, true_and]
    refine list_eq_of_get (by simp [hl]) fun i x y hx hy => ?_
    simp only [List.getElem?_map, Option.map_eq_some_iff] at hy
    obtain ⟨z, hz, rfl⟩ := hy
    exact ih i z x hz hx (shutL_get hs i z hz)
  | rp _ ih => intro hs; simp only [SV.av]; rw [ih (by simpa [SV.shut] using hs)]
  | ifc _ ih => intro hs; simp only [SV.av]; rw [ih (by simpa [SV.shut] using hs)]
  | any | sl | slNil | ptr | eptr | mp | self0 | self1 | sd0 | sd1 | bl0 | bl1 => intro hs; simp [SV.shut] at hs
  | _ => intro hs; rfl
theorem RV.of_av {x : SV Θ} : x.shut = true -> RV C ι x (x.av C) := by
  refine SV.rec (motive_1 := fun x => x.shut = true -> RV C ι x (x.av C)) (motive_2 := fun xs => SV.shut.shutL xs = true -> ∀ (i : Nat) (x : SV Θ), xs[i]? = some x -> RV C ι x (x.av C))
    ?_ ?_ ?_ ?_ ?_ ?_ ?_ ?_ ?_ ?_ ?_ ?_ ?_ ?_ ?_ ?_ ?_ ?_ ?_ ?_ ?_ ?_ x
  case refine_1 => intro h; simp [SV.shut] at h
  case refine_18 => intro o h; simp [SV.shut] at h
  case refine_19 => intro c o h; simp [SV.shut] at h
  case refine_20 => intro c o len h; simp [SV.shut] at h
  case refine_2 => intro k x _; exact .i _ _
  case refine_3 => intro x _; exact .b _
  case refine_4 => intro x _; exact .kb _
  case refine_5 => intro x _; exact .s _
  case refine_6 => intro x _; exact .v _
  case refine_7 =>
    intro cs ih h
    simp only [SV.av, avL_map]
    refine .agg (by simp) fun i x a hx ha => ?_
    simp only [List.getElem?_map, hx, Option.map_some, Option.some.injEq] at ha
    subst ha; exact ih (by simpa [SV.shut] using h) i x hx
  case refine_8 =>
    intro cs ih h
    simp only [SV.av, avL_map]
    refine .tup (by simp) fun i x a hx ha => ?_
    simp only [List.getElem?_map, hx, Option.map_some, Option.some.injEq] at ha
    subst ha; exact ih (by simpa [SV.shut] using h) i x hx
  case refine_9 => intro c xs _; exact .lst _ _
  case refine_10 => intro x ih h; exact .rp (ih (by simpa [SV.shut] using h))
  case refine_11 => intro c o off len cap h; simp [SV.shut] at h
  case refine_12 => intro _; exact .z0
  case refine_13 => intro o off h; simp [SV.shut] at h
  case refine_14 => intro c o i off h; simp [SV.shut] at h
  case refine_15 =>
    intro f cs ih h
    simp only [SV.av, avL_map]
    refine .fn (by simp) fun i x a hx ha => ?_
    simp only [List.getElem?_map, hx, Option.map_some, Option.some.injEq] at ha
    subst ha; exact ih (by simpa [SV.shut] using h) i x hx
  case refine_16 => intro o h; simp [SV.shut] at h
  case refine_17 => intro t x ih h; exact .ifc (ih (by simpa [SV.shut] using h))
  case refine_21 => intro _ i x hx; simp at hx
  case refine_22 =>
    intro y ys ihy ih h i x hx
    simp only [SV.shut.shutL] at h
    split at h
    · rename_i hy
      cases i with
      | zero => simp at hx; subst hx; exact ihy hy
      | succ i => exact ih h i x (by simpa using hx)
    · cases h
theorem Emb.ext {ι L : Emb} {o : Nat} {x : Option Nat} (h : ι[o]? = some x) : (ι ++ L)[o]? = some x := by
  rw [List.getElem?_append_left (getElem?_lt h)]; exact h
theorem RV.mono {x : SV Θ} {a : AV} (h : RV C ι x a) (L : Emb) : RV C (ι ++ L) x a := by
  induction h with
  | any a => exact .any a
  | i k x => exact .i k x
  | b x => exact .b x
  | kb x => exact .kb x
  | s l => exact .s l
  | v x => exact .v x
  | agg hl _ ih => exact .agg hl ih
  | tup hl _ ih => exact .tup hl ih
  | lst c xs => exact .lst c xs
  | rp _ ih => exact .rp ih
  | sl ho hk hc => exact .sl (Emb.ext ho) hk hc
  | slNil ho hc ha => exact .slNil (Emb.ext ho) hc ha
  | z0 => exact .z0
  | ptr ho => exact .ptr (Emb.ext ho)
  | eptr ho => exact .eptr (Emb.ext ho)
  | fn hl _ ih => exact .fn hl ih
  | mp ho => exact .mp (Emb.ext ho)
  | ifc _ ih => exact .ifc ih
  | self0 => exact .self0
  | self1 ho => exact .self1 (Emb.ext ho)
  | sd0 ho => exact .sd0 (Emb.ext ho)
  | sd1 ho => exact .sd1 (Emb.ext ho)
  | bl0 ho => exact .bl0 (Emb.ext ho)
  | bl1 ho hk => exact .bl1 (Emb.ext ho) hk
theorem RVs.mono {xs : List (SV Θ)} {as : List AV} (h : RVs C ι xs as) (L : Emb) : RVs C (ι ++ L) xs as := ⟨h.1, fun i x a h1 h2 => (h.2 i x a h1 h2).mono L⟩
theorem RVs.nil : RVs C ι ([] : List (SV Θ)) [] := ⟨rfl, fun i x a h _ => by simp at h⟩
theorem RVs.cons {x : SV Θ} {a : AV} {xs : List (SV Θ)} {as : List AV} (h : RV C ι x a) (hs : RVs C ι xs as) : RVs C ι (x :: xs) (a :: as) :=
  ⟨by simp [hs.1], fun i y b hy hb => by
    cases i with
    | zero => simp at hy hb; subst hy; subst hb; exact h
    | succ i => exact hs.2 i y b (by simpa using hy) (by simpa using hb)⟩
theorem RVs.uncons {x : SV Θ} {xs : List (SV Θ)} {as : List AV} (h : RVs C ι (x :: xs) as) : ∃ a bs, as = a :: bs ∧ RV C ι x a ∧ RVs C ι xs bs := by
  cases as with
  | nil => have := h.1; simp at this
  | cons a bs => exact ⟨a, bs, rfl, h.2 0 x a rfl rfl, by have := h.1; simpa using this, fun i y b hy hb => h.2 (i + 1) y b (by simpa using hy) (by simpa using hb)⟩
theorem RVs.unnil {as : List AV} (h : RVs C ι ([] : List (SV Θ)) as) : as = [] := List.length_eq_zero_iff.1 h.1.symm
theorem RVs.append {xs ys : List (SV Θ)} {as bs : List AV} (h : RVs C ι xs as) (k : RVs C ι ys bs) : RVs C ι (xs ++ ys) (as ++ bs) := by
  refine ⟨by simp [h.1, k.1], fun i x a hx ha => ?_⟩
  rcases Nat.lt_or_ge i xs.length with h1 | h1
  · rw [List.getElem?_append_left h1] at hx
    rw [List.getElem?_append_left (by rw [<- h.1]; exact h1)] at ha
    exact h.2 i x a hx ha
  · rw [List.getElem?_append_right h1] at hx
    rw [List.getElem?_append_right (by rw [<- h.1]; exact h1), <- h.1] at ha
    exact k.2 _ x a hx ha
theorem RVs.take {xs : List (SV Θ)} {as : List AV} (h : RVs C ι xs as) (n : Nat) : RVs C ι (xs.take n) (as.take n) := by
  refine ⟨by simp [h.1], fun i x a hx ha => ?_⟩
  have := getElem?_lt hx
  simp at this
  rw [List.getElem?_take_of_lt (by omega)] at hx ha
  exact h.2 i x a hx ha
theorem RVs.drop {xs : List (SV Θ)} {as : List AV} (h : RVs C ι xs as) (n : Nat) : RVs C ι (xs.drop n) (as.drop n) := by
  refine ⟨by simp [h.1], fun i x a hx ha => ?_⟩
  rw [List.getElem?_drop] at hx ha
  exact h.2 _ x a hx ha
theorem RVs.get {xs : List (SV Θ)} {as : List AV} (h : RVs C ι xs as) {i : Nat} {x : SV Θ} (hx : xs[i]? = some x) : ∃ a, as[i]? = some a ∧ RV C ι x a := by
  have hi := getElem?_lt hx
  have : i < as.length := by rw [<- h.1]; exact hi
  exact ⟨as[i], by simp [this], h.2 i x _ hx (by simp [this])⟩
theorem RVs.set {xs : List (SV Θ)} {as : List AV} (h : RVs C ι xs as) (n : Nat) {x : SV Θ} {a : AV} (hx : RV C ι x a) : RVs C ι (xs.set n x) (as.set n a) := by
  refine ⟨by simp [h.1], fun i y b hy hb => ?_⟩
  have h1 := getElem?_lt hy
  have h2 := getElem?_lt hb
  simp at h1 h2
  rw [List.getElem?_set] at hy hb
  by_cases e : n = i
  · subst e
    simp only [if_true] at hy hb
    rw [if_pos h1] at hy
    rw [if_pos h2] at hb
    cases hy; cases hb; exact hx
  · rw [if_neg e] at hy hb; exact h.2 i y b hy hb
theorem RVs.replicate (n : Nat) {x : SV Θ} {a : AV} (hx : RV C ι x a) : RVs C ι (List.replicate n x) (List.replicate n a) := by
  refine ⟨by simp, fun i y b hy hb => ?_⟩
  simp only [List.getElem?_replicate] at hy hb
  split at hy
  · rw [if_pos (by assumption)] at hb; cases hy; cases hb; exact hx
  · cases hy
theorem RVs.of_map {α : Type} (l : List α) (f : α -> SV Θ) (g : α -> AV) (h : ∀ x ∈ l, RV C ι (f x) (g x)) : RVs C ι (l.map f) (l.map g) := by
  induction l with
  | nil => exact .nil
  | cons x l ih => exact .cons (h x (by simp)) (ih fun y hy => h y (by simp [hy]))
end
inductive RObj (C : Cod Θ) (ι : Emb) : SO Θ -> AObj -> Prop
  | box {cs : List (SV Θ)} {as : List AV} (h : RVs C ι cs as) : RObj C ι (.box cs) (.cells as)
  | arr (c : Nat) (xs : List (Θ c)) (ext : List AV) : RObj C ι (.arr c xs) (.cells (C.flat c xs ++ ext))
  | map (c d : Nat) (es : List (Θ c × Θ d)) : RObj C ι (.map c d es) (.map (es.map fun p => (C.avE c p.1, C.avE d p.2)))
  | hole {c : Nat} {xs : List (Θ c)} {j : Nat} {cs : List (SV Θ)} {ins : List AV} (hj : j < xs.length) (hi : RVs C ι cs ins) (hl : cs.length = C.sz c) (ext : List AV) : RObj C ι (.hole c xs j cs) (.cells (C.flat c (xs.take j) ++ (ins ++ (C.flat c (xs.drop (j + 1)) ++ ext))))
  | raw {c : Nat} {xs : List (Θ c)} {as : List AV} (hx : xs ≠ []) (ext : List AV) (h : NilAs as (C.flat c xs ++ ext)) : RObj C ι (.raw c xs) (.cells as)
theorem RObj.mono {C : Cod Θ} {ι : Emb} {x : SO Θ} {y : AObj} (h : RObj C ι x y) (L : Emb) : RObj C (ι ++ L) x y := by
  cases h with
  | box h => exact .box (h.mono L)
  | arr c xs ext => exact .arr c xs ext
  | map c d es => exact .map c d es
  | hole hj hi hl ext => exact .hole hj (hi.mono L) hl ext
  | raw hx ext h => exact .raw hx ext h
structure Base where
  mine : Nat -> Prop
  H : Heap
  roots : Emb
structure RH (C : Cod Θ) (A : Base) (ι : Emb) (S : SHeap Θ) (H : Heap) : Prop where
  len : ι.length = S.length
  lt : ∀ (o p : Nat), ι[o]? = some (some p) -> p < H.length
  inj : ∀ (o o' p : Nat), ι[o]? = some (some p) -> ι[o']? = some (some p) -> o = o' ∨ S[o]? = some .dead ∨ S[o']? = some .dead
  obj : ∀ (o p : Nat) (x : SO Θ), ι[o]? = some (some p) -> S[o]? = some x -> x = .dead ∨ ∃ y, H[p]? = some y ∧ RObj C ι x y
  nil : ∀ (o : Nat) (x : SO Θ), ι[o]? = some none -> S[o]? = some x -> x = .dead ∨ (∃ c, x = .arr c []) ∨ ∃ q t, x = .tag q t
  tg : ∀ (j q : Nat) (t : TypeId), S[j]? = some (.tag q t) -> q < S.length ∧ ∀ p, ι[q]? = some (some p) -> tagged H p t = true ∧ ∀ (c : Nat) (xs : List (Θ c)), S[q]? = some (.arr c xs) -> xs ≠ []
  own : ∀ (o p : Nat), ι[o]? = some (some p) -> A.H.length <= p ∨ A.mine p
  big : A.H.length <= H.length
  base : ∀ p, p < A.H.length -> ¬ A.mine p -> H[p]? = A.H[p]?
  rts : ∀ (i : Nat) (x : Option Nat), A.roots[i]? = some x -> ι[i]? = some x
def RE (C : Cod Θ) (ι : Emb) (ρ : SEnv Θ) (e : Env) : Prop := ∀ t, RV C ι (ρ.get t) (e t)
theorem RE.mono {C : Cod Θ} {ι : Emb} {ρ : SEnv Θ} {e : Env} (h : RE C ι ρ e) (L : Emb) : RE C (ι ++ L) ρ e := fun t => (h t).mono L
theorem RE.cons {C : Cod Θ} {ι : Emb} {ρ : SEnv Θ} {e : Env} (h : RE C ι ρ e) {d : Nat} {x : SV Θ} {a : AV} (hx : RV C ι x a) : RE C ι ((d, x) :: ρ) (upd e d a) := by
  intro t
  simp only [SEnv.get]
  split
  · rename_i ht; have := nbeq_true ht; subst this; simpa [upd] using hx
  · rename_i ht; have := nbeq_false ht; rw [upd_ne _ _ (fun h => this h.symm)]; exact h t
theorem RE.known {C : Cod Θ} {ι : Emb} {ρ : SEnv Θ} {e : Env} (h : RE C ι ρ e) {d : Nat} {x : SV Θ} (hx : RV C ι x (e d)) : RE C ι ((d, x) :: ρ) e := by
  intro t
  simp only [SEnv.get]
  split
  · rename_i ht; have := nbeq_true ht; subst this; exact hx
  · exact h t
inductive Cm (α : Type) : Type 1 where
  | ret (a : α)
  | no
  | ite (b : Bool) (t e : Cm α)
  | chk (p : Prop) (t : Cm α)
  | get {β : Type} (o : Option β) (f : β -> Cm α)
def Cm.den {α : Type} (K : α -> Prop) : Cm α -> Prop
  | .ret a => K a
  | .no => False
  | .ite b t e => (b = true -> t.den K) ∧ (b = false -> e.den K)
  | .chk p t => p ∧ t.den K
  | .get o f => ∃ x, o = some x ∧ (f x).den K
def Cm.bind {α β : Type} (f : α -> Cm β) : Cm α -> Cm β
  | .ret a => f a
  | .no => .no
  | .ite b t e => .ite b (t.bind f) (e.bind f)
  | .chk p t => .chk p (t.bind f)
  | .get o g => .get o fun x => (g x).bind f
theorem Cm.den_mono {α : Type} {K K' : α -> Prop} (h : ∀ a, K a -> K' a) : ∀ {t : Cm α}, t.den K -> t.den K' := by
  intro t
  induction t with
  | ret a => exact h a
  | no => exact id
  | ite b t e ih1 ih2 => exact fun k => ⟨fun hb => ih1 (k.1 hb), fun hb => ih2 (k.2 hb)⟩
  | chk p t ih => exact fun k => ⟨k.1, ih k.2⟩
  | get o f ih => exact fun ⟨x, h1, h2⟩ => ⟨x, h1, ih x h2⟩
theorem Cm.den_bind {α β : Type} {K : β -> Prop} {f : α -> Cm β} : ∀ {t : Cm α}, (t.bind f).den K -> t.den fun a => (f a).den K := by
  intro t
  induction t with
  | ret a => exact id
  | no => exact id
  | ite b t e ih1 ih2 => exact fun k => ⟨fun hb => ih1 (k.1 hb), fun hb => ih2 (k.2 hb)⟩
  | chk p t ih => exact fun k => ⟨k.1, ih k.2⟩
  | get o f ih => exact fun ⟨x, h1, h2⟩ => ⟨x, h1, ih x h2⟩
theorem Cm.den_ex {α : Type} {K : α -> Prop} : ∀ {t : Cm α}, t.den K -> ∃ a, K a ∧ ∀ K' : α -> Prop, K' a -> t.den K' := by
  intro t
  induction t with
  | ret a => exact fun h => ⟨a, h, fun _ h => h⟩
  | no => exact False.elim
  | ite b t e ih1 ih2 =>
    intro h
    cases b with
    | true =>
      obtain ⟨a, h1, h2⟩ := ih1 (h.1 rfl)
      exact ⟨a, h1, fun K' k => ⟨fun _ => h2 K' k, fun hb => by cases hb⟩⟩
    | false =>
      obtain ⟨a, h1, h2⟩ := ih2 (h.2 rfl)
      exact ⟨a, h1, fun K' k => ⟨fun hb => (by cases hb), fun _ => h2 K' k⟩⟩
  | chk p t ih =>
    intro h
    obtain ⟨a, h1, h2⟩ := ih h.2
    exact ⟨a, h1, fun K' k => ⟨h.1, h2 K' k⟩⟩
  | get o f ih =>
    intro ⟨x, hx, h⟩
    obtain ⟨a, h1, h2⟩ := ih x h
    exact ⟨a, h1, fun K' k => ⟨x, hx, h2 K' k⟩⟩
end Go.Ab
