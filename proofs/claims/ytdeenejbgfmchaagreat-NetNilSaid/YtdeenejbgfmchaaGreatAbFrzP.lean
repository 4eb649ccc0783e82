/- A part of a law's proof: AbFrzP. -/
import Derived.Test.YtdeenejbgfmchaaGreatAbRun
set_option linter.constructorNameAsVariable false
/-
  A call that only reads what it is handed: as on frozen data.
-/
namespace Go.Ab
open Go Go.RowKit
set_option linter.unusedVariables false
set_option linter.unusedSimpArgs false
theorem Frz.rep0 {B : Nat} {β : Lies} {H : Heap} {w : World} (s : Sim B β H w) {a b : AV} (f : Frz H 0 a b) {c : Value} (h : RepH β H w a c) : RepH β [] w b c := f.rep s h
theorem ACalls.frz0 {P : Program} {f : FuncId} {args as : List AV} {Q : AV -> Prop} (h : ACalls P f as [] fun r _ => Q r ∧ r.scal = true) {H : Heap} (hl : as.length = args.length)
    (ha : ∀ (i : Nat) (a b : AV), args[i]? = some a -> as[i]? = some b -> Frz H 0 a b) : ACalls P f args H fun r H' => Q r ∧ H' = H := by
  refine ⟨h.ok, fun B β w cs s hlen hargs => ?_⟩
  have sim : Sim w.heap.size β [] w := by
    refine ⟨s.size.top, ?_, ?_, ?_, ?_, ?_, ?_, ?_, ?_, ?_⟩ <;> (intros; simp at *)
  refine Calls.mono (h.go w.heap.size β w cs sim (by omega) fun i b c h1 h2 => ?_) ?_
  · obtain ⟨a, h3⟩ : ∃ a, args[i]? = some a := ⟨args[i]'(by have := getElem?_lt h1; omega), by simp⟩
    exact (ha i a b h3 h1).rep0 s (hargs i a c h3 h2)
  rintro e w' ⟨r, c, β', H', rfl, ⟨hq, hsc⟩, hrep, _, tr⟩
  obtain ⟨s', tr'⟩ := s.widen tr.below
  exact ⟨r, c, β, H, rfl, ⟨hq, rfl⟩, hrep.scal hsc, s', tr'⟩
def pureP : List (Nat × List AV × AV) -> Called
  | [] => fun _ _ _ => none
  | p :: L => fun f args H => match Nat.beq p.1 f with
    | true => match AV.same.sameL p.2.1 args with
      | true => some (p.2.2, H)
      | false => pureP L f args H
    | false => pureP L f args H
theorem pureP_nil {P : Program} : Says P (pureP []) := fun _ _ _ _ _ h => by cases h
theorem pureP_cons {P : Program} {p : Nat × List AV × AV} {L : List (Nat × List AV × AV)} (h : PureCall P p.1 p.2.1 p.2.2) (hL : Says P (pureP L)) : Says P (pureP (p :: L)) := by
  intro f args H r H' e
  simp only [pureP] at e
  split at e
  · rename_i h1
    split at e
    · rename_i h2
      cases e
      have := nbeq_true h1
      subst this
      have := sameL_eq h2
      subst this
      exact h H
    · exact hL f args H r H' e
  · exact hL f args H r H' e
def exPureB (T : List (Nat × FI)) (prim : Called) (n f : Nat) (args : List AV) (r : AV) : Bool :=
  match exCall T prim (exF T prim n) f args [] with
  | some (v, H') => match frzA H' 0 12 v with
    | some q => AV.same q r
    | none => false
  | none => false
theorem exPure {P : Program} {T : List (Nat × FI)} {prim : Called} (hT : ∀ p ∈ T, Knows P p.1 p.2) (hp : Says P prim) {n f : Nat} {args : List AV} {r : AV} (hs : AV.shut.shutL args = true) (hr : r.shut = true) (h : exPureB T prim n f args r = true) : PureCall P f args r := by
  unfold exPureB at h
  split at h
  · rename_i v H' hv
    split at h
    · rename_i q hq
      have := same_eq h
      subst this
      exact ACalls.pureFrz ((exRun hT hp hv).mono fun a b ⟨h1, h2⟩ => by rw [h1, h2]; exact frzA_sound hq) hr hs
    · cases h
  · cases h
end Go.Ab
