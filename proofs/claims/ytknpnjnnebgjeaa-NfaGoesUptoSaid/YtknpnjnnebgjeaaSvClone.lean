/- A part of a law's proof: SvClone. -/
import Derived.Test.YtknpnjnnebgjeaaAbClone
import Derived.Test.YtknpnjnnebgjeaaSvPlain
set_option linter.unusedSimpArgs false
set_option linter.constructorNameAsVariable false
/-
  slices.Clone as a function.
-/
namespace Go.Ab
open Go Go.RowKit
set_option linter.unusedVariables false
variable {Θ : Nat → Type} {C : Cod Θ} {P : Program}

def codeL : Code → Code
  | .seq a _ => a
  | _ => .skip
def codeR : Code → Code
  | .seq _ b => b
  | _ => .skip

/-- What slices.Clone comes to, of elements of so many bytes. -/
noncomputable def cloneF {α : Type} (bytes : Nat) (l : List α) : Option (List α) := (Cm.chk (l.length * bytes ≤ LIM ∧ l.length ≤ LIM) (.ret l)).opt

theorem cloneF_eq {α : Type} {bytes : Nat} {l : List α} (h : l.length * bytes ≤ LIM ∧ l.length ≤ LIM) : cloneF bytes l = some l := by
  unfold cloneF
  rw [opt_chk h, opt_ret]

theorem clone_ok (ok : CodOk C) {f n0 T c bytes h : Nat} {fn : Func} {c1 c2 c3 c4 : Code} (hk : CloneAt P f n0 T (C.sz c) bytes h fn c1 c2 c3 c4) (hn : Nat.ble 1 n0 = true) {l r : List (Θ c)} (hr : cloneF bytes l = some r) :
    PCall P C f [.lst c l] (· = .lst c r) := by
  obtain ⟨⟨h1, h2⟩, h3⟩ := Cm.den_opt (K := (· = r)) hr rfl
  have h3 : l = r := h3
  subst h3
  intro H
  have hcell : ∀ x ∈ l.map (C.avE c), ∃ y, x.cells = C.avs c y := by
    intro x hx
    obtain ⟨y, _, rfl⟩ := List.mem_map.1 hx
    exact ⟨y, avE_cells ok y⟩
  have key := clone_acalls hk (Nat.le_of_ble_eq_true hn) (xs := l.map (C.avE c)) (fun x hx => by obtain ⟨y, e⟩ := hcell x hx; rw [e]; exact ok.len c y) (by
    rw [List.all_eq_true]
    intro a ha
    obtain ⟨x, hx, ha⟩ := List.mem_flatMap.1 ha
    obtain ⟨y, e⟩ := hcell x hx
    rw [e] at ha
    exact ok.one c y a ha) (fun x hx a ha => by obtain ⟨y, e⟩ := hcell x hx; rw [e] at ha; exact ok.shut c y a ha) (by simpa using ⟨h1, h2⟩) H
  refine key.mono fun r H' ⟨e1, e2⟩ => ⟨e2, .lst c l, e1, rfl, rfl⟩

end Go.Ab
