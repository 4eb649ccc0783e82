/- A part of a law's proof: SvPlain. -/
import Derived.Test.YtjkcjbkkgkhljaaSvDe
import Derived.Test.YtjkcjbkkgkhljaaSvLoop
set_option linter.constructorNameAsVariable false
/-
  Small laws for the plain part: trees, numbers, bytes.
-/
namespace Go.Ab
open Go
set_option linter.unusedVariables false
set_option linter.unusedSimpArgs false
section
variable {α β : Type}
theorem opt_chk {p : Prop} {t : Cm α} (h : p) : (Cm.chk p t).opt = t.opt := by simp [Cm.opt, h]
theorem opt_t {b : Bool} {t e : Cm α} (h : b = true) : (Cm.ite b t e).opt = t.opt := by simp [Cm.opt, h]
theorem opt_f {b : Bool} {t e : Cm α} (h : b = false) : (Cm.ite b t e).opt = e.opt := by simp [Cm.opt, h]
theorem opt_get {o : Option β} {f : β -> Cm α} {x : β} (h : o = some x) : (Cm.get o f).opt = (f x).opt := by simp [Cm.opt, h]
theorem opt_ret {a : α} : (Cm.ret a).opt = some a := rfl
theorem opt_ite {b : Bool} {t e : Cm α} : (Cm.ite b t e).opt = if b = true then t.opt else e.opt := by cases b <;> rfl
theorem opt_bind {o : Option β} {f : β -> Cm α} : (Cm.get o f).opt = o.bind fun x => (f x).opt := rfl
theorem tot_ite {d : α} {b : Bool} {t e : Cm α} : (Cm.ite b t e).tot d = if b = true then t.tot d else e.tot d := by cases b <;> rfl
theorem tot_ret {d a : α} : (Cm.ret a).tot d = a := rfl
variable {σ ρ : Type} {g : σ -> Cm (σ ⊕ ρ)} {s s' : σ} {r : Option ρ}
theorem loopO_inl (h : (g s).opt = some (.inl s')) (k : loopO g s' = r) : loopO g s = r := by rw [loopO_step, h]; exact k
theorem loopO_inr {x : ρ} (h : (g s).opt = some (.inr x)) : loopO g s = some x := by rw [loopO_step, h]; rfl
theorem runO_inl {s0 : Cm (σ ⊕ ρ)} (h : s0.opt = some (.inl s')) (k : loopO g s' = r) : runO g s0 = r := by unfold runO; rw [h]; exact k
end
theorem w64 {x : Int} (h1 : -9223372036854775808 <= x) (h2 : x < 9223372036854775808) : IntKind.i64.wrap x = x := wrap_i64 h1 (by omega)
theorem wu64 {x : Int} (h1 : 0 <= x) (h2 : x < 18446744073709551616) : IntKind.u64.wrap x = x := wrap_u64 h1 (by omega)
theorem wsucc {n : Nat} (h : n < 9223372036854775807) : IntKind.i64.wrap ((n : Int) + 1) = ((n + 1 : Nat) : Int) := by rw [w64 (by omega) (by omega)]; rfl
def byteAt (a : Int) (i : Nat) : Int := IntKind.u8.wrap (a.fdiv ((2 : Int) ^ Min.min (8 * i) 64))
def beL (a : Int) : Nat -> List Int
  | 0 => []
  | i + 1 => byteAt a i :: beL a i
def toB (l : List Int) : List UInt8 := l.map fun x => UInt8.ofNat (Int.toNat x)
def be (a : Int) (n : Nat) : List UInt8 := toB (beL a n)
end Go.Ab
