/- A part of a law's proof: SvPlain. -/
import Derived.Test.YthhbggmlfilpdaaDoorSvDe
import Derived.Test.YthhbggmlfilpdaaDoorSvLoop
set_option linter.constructorNameAsVariable false
/-
  Small laws for the plain part: trees, numbers, bytes.
-/
namespace Go.Ab
open Go
set_option linter.unusedVariables false
set_option linter.unusedSimpArgs false
section
variable {α β : Type}
theorem opt_chk {p : Prop} {t : Cm α} (h : p) : (Cm.chk p t).opt = t.opt := by simp [Cm.opt, h]
theorem opt_t {b : Bool} {t e : Cm α} (h : b = true) : (Cm.ite b t e).opt = t.opt := by simp [Cm.opt, h]
theorem opt_f {b : Bool} {t e : Cm α} (h : b = false) : (Cm.ite b t e).opt = e.opt := by simp [Cm.opt, h]
theorem opt_get {o : Option β} {f : β -> Cm α} {x : β} (h : o = some x) : (Cm.get o f).opt = (f x).opt := by simp [Cm.opt, h]
theorem opt_ret {a : α} : (Cm.ret a).opt = some a := rfl
theorem opt_ite {b : Bool} {t e : Cm α} : (Cm.ite b t e).opt = if b = true then t.opt else e.opt := by cases b <;> rfl
theorem opt_chk' {p : Prop} [Decidable p] {t : Cm α} : (Cm.chk p t).opt = if p then t.opt else none := by simp [Cm.opt]
theorem opt_bind {o : Option β} {f : β -> Cm α} : (Cm.get o f).opt = o.bind fun x => (f x).opt := rfl
theorem tot_ite {d : α} {b : Bool} {t e : Cm α} : (Cm.ite b t e).tot d = if b = true then t.tot d else e.tot d := by cases b <;> rfl
theorem tot_ret {d a : α} : (Cm.ret a).tot d = a := rfl
variable {σ ρ : Type} {g : σ -> Cm (σ ⊕ ρ)} {s s' : σ} {r : Option ρ}
theorem loopO_inl (h : (g s).opt = some (.inl s')) (k : loopO g s' = r) : loopO g s = r := by rw [loopO_step, h]; exact k
theorem loopO_inr {x : ρ} (h : (g s).opt = some (.inr x)) : loopO g s = some x := by rw [loopO_step, h]; rfl
theorem runO_inl {s0 : Cm (σ ⊕ ρ)} (h : s0.opt = some (.inl s')) (k : loopO g s' = r) : runO g s0 = r := by unfold runO; rw [h]; exact k
theorem runO_inr {s0 : Cm (σ ⊕ ρ)} {x : ρ} (h : s0.opt = some (.inr x)) : runO g s0 = some x := by unfold runO; rw [h]; rfl
end
theorem w64 {x : Int} (h1 : -9223372036854775808 <= x) (h2 : x < 9223372036854775808) : IntKind.i64.wrap x = x := wrap_i64 h1 (by omega)
theorem wu64 {x : Int} (h1 : 0 <= x) (h2 : x < 18446744073709551616) : IntKind.u64.wrap x = x := wrap_u64 h1 (by omega)
theorem wu8 {x : Int} (h1 : 0 <= x) (h2 : x < 256) : IntKind.u8.wrap x = x := wrap_u8 h1 (by omega)
theorem wu32 {x : Int} (h1 : 0 <= x) (h2 : x < 4294967296) : IntKind.u32.wrap x = x := wrap_in (k := .u32) ⟨h1, by omega⟩
theorem wu16 {x : Int} (h1 : 0 <= x) (h2 : x < 65536) : IntKind.u16.wrap x = x := wrap_in (k := .u16) ⟨h1, by omega⟩
theorem wsucc {n : Nat} (h : n < 9223372036854775807) : IntKind.i64.wrap ((n : Int) + 1) = ((n + 1 : Nat) : Int) := by rw [w64 (by omega) (by omega)]; rfl
theorem wrapE (n : Int) : IntKind.u8.wrap n = n % 256 := by
  have e1 : IntKind.u8.bits = 8 := rfl
  have e2 : IntKind.u8.signed = false := rfl
  simp [IntKind.wrap, e1, e2]
theorem wrapE64 (n : Int) : IntKind.u64.wrap n = n % 18446744073709551616 := by
  have e1 : IntKind.u64.bits = 64 := rfl
  have e2 : IntKind.u64.signed = false := rfl
  simp [IntKind.wrap, e1, e2]
theorem wrapE32 (n : Int) : IntKind.u32.wrap n = n % 4294967296 := by
  have e1 : IntKind.u32.bits = 32 := rfl
  have e2 : IntKind.u32.signed = false := rfl
  simp [IntKind.wrap, e1, e2]
theorem wrapE16 (n : Int) : IntKind.u16.wrap n = n % 65536 := by
  have e1 : IntKind.u16.bits = 16 := rfl
  have e2 : IntKind.u16.signed = false := rfl
  simp [IntKind.wrap, e1, e2]
theorem nthE {α : Type} {l : List α} {n : Nat} (h : n < l.length) : l[((n : Int)).toNat]? = some l[n] := by simp [h]
theorem filterMap_some {α β : Type} (f : α -> β) (l : List α) : List.filterMap (fun x => Option.some (f x)) l = l.map f := by
  induction l with
  | nil => rfl
  | cons b l ih => simp [ih]
theorem dropE {α : Type} {l : List α} {i : Nat} (h : i < l.length) : l.drop i = l[i] :: l.drop (i + 1) := List.drop_eq_getElem_cons h
theorem flatE {α β : Type} (f : α -> List β) {l : List α} {i : Nat} (h : i < l.length) : (l.drop i).flatMap f = f l[i] ++ (l.drop (i + 1)).flatMap f := by rw [dropE h, List.flatMap_cons]
theorem dropN {α : Type} {l : List α} {i : Nat} (h : l.length <= i) : l.drop i = [] := List.drop_eq_nil_iff.2 h
theorem bytes_back (l : List UInt8) : (l.map fun b => (↑b.toNat : Int)).map (fun (x : Int) => UInt8.ofNat x.toNat) = l := by
  induction l with
  | nil => rfl
  | cons b l ih => simp [ih]
theorem byte_roundtrip (l : List UInt8) : (List.filterMap (fun (b : UInt8) => Option.some (↑b.toNat : Int)) l).map (fun (x : Int) => UInt8.ofNat x.toNat) = l := by
  rw [filterMap_some]; exact bytes_back l
theorem fdivp (v : Int) (n : Nat) : v.fdiv ((2 : Int) ^ n) = v / 2 ^ n := Int.fdiv_eq_ediv_of_nonneg _ (Int.le_of_lt (Int.pow_pos (by omega)))
theorem bits64 : IntKind.u64.bits = 64 := rfl
theorem bits32 : IntKind.u32.bits = 32 := rfl
theorem bitsi64 : IntKind.i64.bits = 64 := rfl
def byteAt (a : Int) (i : Nat) : Int := IntKind.u8.wrap (a.fdiv ((2 : Int) ^ Min.min (8 * i) 64))
def beL (a : Int) : Nat -> List Int
  | 0 => []
  | i + 1 => byteAt a i :: beL a i
theorem beL_length (a : Int) (n : Nat) : (beL a n).length = n := by
  induction n with
  | zero => rfl
  | succ n ih => simp [beL, ih]
def toB (l : List Int) : List UInt8 := l.map fun x => UInt8.ofNat (Int.toNat x)
def be (a : Int) (n : Nat) : List UInt8 := toB (beL a n)
theorem be_length (a : Int) (n : Nat) : (be a n).length = n := by simp [be, toB, beL_length]
theorem byte_eq (a : Int) (i : Nat) (hi : i <= 8) : IntKind.u8.wrap (a.fdiv ((2 : Int) ^ Min.min (IntKind.i64.wrap ((8 : Int) * (i : Int))).toNat 64)) = byteAt a i := by
  rw [w64 (by omega) (by omega)]
  have : ((8 : Int) * (i : Int)).toNat = 8 * i := by omega
  rw [this]; rfl
end Go.Ab
