/- A part of a law's proof: AbSrt. -/
import Derived.Test.YtdeenejbgfmchaaGreatAbFrzP
set_option linter.constructorNameAsVariable false
/-
  maps.Keys, and slices.Sorted of the keys of a map that has none.
-/
namespace Go.Ab
open Go Go.RowKit
set_option linter.unusedVariables false
set_option linter.unusedSimpArgs false
structure KeysAt (P : Program) (fk fi fs T : Nat) : Prop where
  okk : Callable P fk
  oks : Callable P fs
  keys : ∀ (mb : Option Nat) (W : World), Calls P fk #[.map mb] W fun e w' => e = .returned (.func (.func fi) #[] #[.pointer (some ⟨W.heap.size, 0, none⟩)]) ∧ w' = W.alloc (.cells #[.map mb] T)
  sorted : ∀ (Bm b clock : Nat) (W : World), Bm < W.heap.size -> W.cell? ⟨Bm, 0, none⟩ = some (.map (some b)) -> W.heap[b]? = some (.map #[] clock) ->
    Calls P fs #[.func (.func fi) #[] #[.pointer (some ⟨Bm, 0, none⟩)]] W fun e w' => e = .returned (.slice none 0 0) ∧ Below W.heap.size W w'
def orPrim (p q : Called) : Called := fun f args H => match p f args H with
  | some r => some r
  | none => q f args H
theorem orPrim_says {P : Program} {p q : Called} (hp : Says P p) (hq : Says P q) : Says P (orPrim p q) := by
  intro f args H r H' h
  unfold orPrim at h
  split at h
  · rename_i x hx
    cases h
    exact hp f args H r H' hx
  · exact hq f args H r H' h
end Go.Ab
