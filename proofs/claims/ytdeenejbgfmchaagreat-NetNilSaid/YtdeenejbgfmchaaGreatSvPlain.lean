/- A part of a law's proof: SvPlain. -/
import Derived.Test.YtdeenejbgfmchaaGreatSvDe
import Derived.Test.YtdeenejbgfmchaaGreatSvLoop
set_option linter.constructorNameAsVariable false
/-
  Small laws for the plain part: trees, numbers, bytes.
-/
namespace Go.Ab
open Go
set_option linter.unusedVariables false
set_option linter.unusedSimpArgs false
section
variable {α β : Type}
variable {σ ρ : Type} {g : σ -> Cm (σ ⊕ ρ)} {s s' : σ} {r : Option ρ}
theorem loopO_inl (h : (g s).opt = some (.inl s')) (k : loopO g s' = r) : loopO g s = r := by rw [loopO_step, h]; exact k
theorem loopO_inr {x : ρ} (h : (g s).opt = some (.inr x)) : loopO g s = some x := by rw [loopO_step, h]; rfl
theorem runO_inl {s0 : Cm (σ ⊕ ρ)} (h : s0.opt = some (.inl s')) (k : loopO g s' = r) : runO g s0 = r := by unfold runO; rw [h]; exact k
end
def byteAt (a : Int) (i : Nat) : Int := IntKind.u8.wrap (a.fdiv ((2 : Int) ^ Min.min (8 * i) 64))
def beL (a : Int) : Nat -> List Int
  | 0 => []
  | i + 1 => byteAt a i :: beL a i
def toB (l : List Int) : List UInt8 := l.map fun x => UInt8.ofNat (Int.toNat x)
def be (a : Int) (n : Nat) : List UInt8 := toB (beL a n)
end Go.Ab
