/- A part of a law's proof: SvShelf. -/
import Derived.Lib.Agree
import Derived.Lib.LaidTab
import Derived.Test.YtdeenejbgfmchaaGreatSvLoop
set_option linter.constructorNameAsVariable false
/-
  Contracts of the library's, as known calls.
-/
namespace Go.Ab
open Go Go.RowKit
set_option linter.unusedVariables false
set_option linter.unusedSimpArgs false
theorem pure_of_calls_wi {P : Program} {f : FuncId} {vs : List Value} {v : Value} (hc : Callable P f) (hs : AV.scal (.v v) = true)
    (h : ∀ w, WI w.heap.size w -> Calls P f vs.toArray w fun e w' => e = .returned v ∧ Go.RowKit.Below w.heap.size w w') : PureCall P f (vs.map AV.v) (.v v) := by
  have h0 : ACalls P f (vs.map AV.v) [] fun r _ => r = .v v ∧ r.scal = true := by
    refine ⟨hc, fun B β w cs sim hl hargs => ?_⟩
    have hcs : cs = vs.toArray := by
      apply Array.ext
      · simpa using hl.symm
      · intro i h1 h2
        have h3 : i < vs.length := by simpa using h2
        have := hargs i (.v vs[i]) cs[i] (by simp [h3]) (by simp [h1])
        have := rep_v this
        simpa using this
    subst hcs
    refine Calls.mono (h w sim.size.top.inv) ?_
    rintro e w' ⟨rfl, bel⟩
    have cellE : ∀ (a : Addr) c, w.cell? a = some c -> w'.cell? a = some c := by
      intro a c hc
      have := bel.block a.block (cell?_lt hc)
      unfold World.cell? at hc ⊢
      rw [this]; exact hc
    refine ⟨.v v, v, β, [], rfl, ⟨rfl, hs⟩, .v v, ?_, ⟨Below.widen bel sim.size.le, Nat.le_refl _, fun _ _ => rfl, fun b i c hr => ⟨⟨cellE _ _ hr.1.1, hr.1.2⟩, hr.2⟩, rfl, fun b hb hn => ⟨bel.block b hb, hn⟩⟩⟩
    have hsz := bel.size
    refine ⟨(sim.size.go (Below.widen bel sim.size.le)), ?_, ?_, ?_, ?_, ?_, ?_, ?_, ?_, ?_⟩ <;> (intros; simp at *)
  refine fun H => (ACalls.lift h0 (fun i a ha => ?_) H).mono fun r H' h => h
  simp only [List.getElem?_map, Option.map_eq_some_iff] at ha
  obtain ⟨x, _, rfl⟩ := ha
  rfl
theorem pure_of_calls {P : Program} {f : FuncId} {vs : List Value} {v : Value} (hc : Callable P f) (hs : AV.scal (.v v) = true)
    (h : ∀ w, Calls P f vs.toArray w fun e w' => e = .returned v ∧ Go.RowKit.Below w.heap.size w w') : PureCall P f (vs.map AV.v) (.v v) :=
  pure_of_calls_wi hc hs fun w _ => h w
end Go.Ab
