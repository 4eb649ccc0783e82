/- A part of a law's proof: SvPrim. -/
import Derived.Test.YtdeenejbgfmchaaGreatAbClone
import Derived.Test.YtdeenejbgfmchaaGreatAbSrt
import Derived.Test.YtdeenejbgfmchaaGreatSvShelf
set_option linter.constructorNameAsVariable false
/-
  Calls that a library's contract tells, for concrete runs.
-/
namespace Go.Ab
open Go Go.RowKit
set_option linter.unusedVariables false
set_option linter.unusedSimpArgs false
def valsOf : List AV -> Option (List Value)
  | [] => some []
  | a :: as => match a with
    | .v x => match valsOf as with
      | some xs => some (x :: xs)
      | none => none
    | _ => none
theorem valsOf_eq : ∀ {as : List AV} {vs : List Value}, valsOf as = some vs -> as = vs.map .v := by
  intro as
  induction as with
  | nil => intro vs h; cases h; rfl
  | cons a as ih =>
    intro vs h
    simp only [valsOf] at h
    split at h
    · split at h
      · rename_i hx
        cases h
        rw [ih hx]; rfl
      · cases h
    · cases h
def valPrim (f : Nat) (F : List Value -> Option Value) : Called := fun g args H =>
  match Nat.beq g f with
  | true => match valsOf args with
    | some vs => match F vs with
      | some v => some (.v v, H)
      | none => none
    | none => none
  | false => none
theorem valPrim_says {P : Program} {f : Nat} {F : List Value -> Option Value} (hF : ∀ vs v, F vs = some v -> PureCall P f (vs.map .v) (.v v)) : Says P (valPrim f F) := by
  intro g args H r H' h
  unfold valPrim at h
  split at h
  · rename_i hg
    have := nbeq_true hg
    subst this
    split at h
    · rename_i vs hvs
      split at h
      · rename_i v hv
        cases h
        rw [valsOf_eq hvs]
        exact hF vs v hv H
      · cases h
    · cases h
  · cases h
def clonePrim (f sz bytes : Nat) : Called := fun g args H =>
  match Nat.beq g f with
  | true => match args with
    | [.lst s xs] => match Nat.beq s sz && (xs.all (fun x => Nat.beq x.cells.length sz) && ((xs.flatMap AV.cells).all AV.one && ((xs.all fun x => x.cells.all AV.shut) && (Nat.ble (xs.length * bytes) LIM && Nat.ble xs.length LIM)))) with
      | true => some (.lst sz xs, H)
      | false => none
    | _ => none
  | false => none
theorem clonePrim_says {P : Program} {f n0 T sz bytes h : Nat} {fn : Func} {c1 c2 c3 c4 : Code} (hk : CloneAt P f n0 T sz bytes h fn c1 c2 c3 c4) (hn : Nat.ble 1 n0 = true) : Says P (clonePrim f sz bytes) := by
  intro g args H r H' h
  unfold clonePrim at h
  split at h
  · rename_i hg
    have := nbeq_true hg
    subst this
    split at h
    · rename_i s xs
      split at h
      · rename_i hb
        simp only [Bool.and_eq_true, List.all_eq_true] at hb
        obtain ⟨h0, h1, h2, h3, h4, h5⟩ := hb
        have := nbeq_true h0
        subst this
        cases h
        exact clone_acalls hk (Nat.le_of_ble_eq_true hn) (fun x hx => nbeq_true (h1 x hx)) (List.all_eq_true.2 h2) (fun x hx a ha => h3 x hx a ha) ⟨Nat.le_of_ble_eq_true h4, Nat.le_of_ble_eq_true h5⟩ H
      · cases h
    · cases h
  · cases h
end Go.Ab
