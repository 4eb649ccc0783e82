/- A part of a law's proof: AbFrzP. -/
import Derived.Test.YtjkcjbkkgkhljaaAbRun
set_option linter.constructorNameAsVariable false
/-
  A call that only reads what it is handed: as on frozen data.
-/
namespace Go.Ab
open Go Go.RowKit
set_option linter.unusedVariables false
set_option linter.unusedSimpArgs false
theorem Frz.rep0 {B : Nat} {β : Lies} {H : Heap} {w : World} (s : Sim B β H w) {a b : AV} (f : Frz H 0 a b) {c : Value} (h : RepH β H w a c) : RepH β [] w b c := f.rep s h
theorem ACalls.frz0 {P : Program} {f : FuncId} {args as : List AV} {Q : AV -> Prop} (h : ACalls P f as [] fun r _ => Q r ∧ r.scal = true) {H : Heap} (hl : as.length = args.length)
    (ha : ∀ (i : Nat) (a b : AV), args[i]? = some a -> as[i]? = some b -> Frz H 0 a b) : ACalls P f args H fun r H' => Q r ∧ H' = H := by
  refine ⟨h.ok, fun B β w cs s hlen hargs => ?_⟩
  have sim : Sim w.heap.size β [] w := by
    refine ⟨s.size.top, ?_, ?_, ?_, ?_, ?_, ?_, ?_, ?_, ?_⟩ <;> (intros; simp at *)
  refine Calls.mono (h.go w.heap.size β w cs sim (by omega) fun i b c h1 h2 => ?_) ?_
  · obtain ⟨a, h3⟩ : ∃ a, args[i]? = some a := ⟨args[i]'(by have := getElem?_lt h1; omega), by simp⟩
    exact (ha i a b h3 h1).rep0 s (hargs i a c h3 h2)
  rintro e w' ⟨r, c, β', H', rfl, ⟨hq, hsc⟩, hrep, _, tr⟩
  obtain ⟨s', tr'⟩ := s.widen tr.below
  exact ⟨r, c, β, H, rfl, ⟨hq, rfl⟩, hrep.scal hsc, s', tr'⟩
end Go.Ab
