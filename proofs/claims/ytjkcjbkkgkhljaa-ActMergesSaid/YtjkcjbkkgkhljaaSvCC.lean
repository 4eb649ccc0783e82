/- A part of a law's proof: SvCC. -/
import Derived.Test.YtjkcjbkkgkhljaaSvNorm
set_option linter.constructorNameAsVariable false
/-
  The check of strings.Builder that it was not copied: its code, and that it does nothing that shows.
-/
namespace Go.Ab
open Go Go.RowKit
set_option linter.unusedVariables false
set_option linter.unusedSimpArgs false
def mkCC (e : Nat) : ACode := .seq (.ops [
  ⟨some 2, .p (.mov (.s 0)), none, 0⟩,
  ⟨some 3, .p (.nilCheck (.s 2)), none, 0⟩,
  ⟨some 4, .p (.fieldAddr 0 none (.s 3)), none, 0⟩,
  ⟨some 5, .m (.load none (.s 4)), none, 0⟩,
  ⟨some 6, .p (.eqn false (.pointer e) (.s 5)), none, 0⟩])
 (.cond (.s 6) (.ops [
  ⟨some 7, .p (.mov (.s 0)), none, 0⟩,
  ⟨some 8, .p (.mov (.s 0)), none, 0⟩,
  ⟨some 9, .m (.ext (.retype e 2 (.s 8))), none, 0⟩,
  ⟨some 10, .m (.ext (.ident (.s 9))), none, 0⟩,
  ⟨some 11, .m (.ext (.retype e 2 (.s 10))), none, e⟩,
  ⟨some 12, .p (.nilCheck (.s 7)), none, 0⟩,
  ⟨some 13, .p (.fieldAddr 0 none (.s 12)), none, 0⟩,
  ⟨none, .m (.store none (.s 13) (.s 11)), none, 0⟩]) (.seq (.ops [
  ⟨some 14, .p (.mov (.s 0)), none, 0⟩,
  ⟨some 15, .p (.nilCheck (.s 14)), none, 0⟩,
  ⟨some 16, .p (.fieldAddr 0 none (.s 15)), none, 0⟩,
  ⟨some 17, .m (.load none (.s 16)), none, 0⟩,
  ⟨some 18, .p (.mov (.s 0)), none, 0⟩,
  ⟨some 19, .m (.ext (.eqp true (.s 17) (.s 18))), none, 0⟩]) (.cond (.s 19) .never .skip)))
def dEq : Option Nat -> Option Nat -> Bool
  | none, none => true
  | some a, some b => Nat.beq a b
  | _, _ => false
def andB : Bool -> Bool -> Bool
  | true, b => b
  | false, _ => false
def aEq : AAct -> AAct -> Bool
  | .p (.mov (.s a)), .p (.mov (.s b)) => Nat.beq a b
  | .p (.nilCheck (.s a)), .p (.nilCheck (.s b)) => Nat.beq a b
  | .p (.fieldAddr m none (.s a)), .p (.fieldAddr n none (.s b)) => andB (Nat.beq m n) (Nat.beq a b)
  | .p (.eqn false (.pointer d) (.s a)), .p (.eqn false (.pointer d') (.s b)) => andB (Nat.beq d d') (Nat.beq a b)
  | .m (.load none (.s a)), .m (.load none (.s b)) => Nat.beq a b
  | .m (.store none (.s a) (.s x)), .m (.store none (.s b) (.s y)) => andB (Nat.beq a b) (Nat.beq x y)
  | .m (.ext (.retype d n (.s a))), .m (.ext (.retype d' n' (.s b))) => andB (Nat.beq d d') (andB (Nat.beq n n') (Nat.beq a b))
  | .m (.ext (.ident (.s a))), .m (.ext (.ident (.s b))) => Nat.beq a b
  | .m (.ext (.eqp true (.s a) (.s x))), .m (.ext (.eqp true (.s b) (.s y))) => andB (Nat.beq a b) (Nat.beq x y)
  | _, _ => false
def oEq : List AOper -> List AOper -> Bool
  | [], [] => true
  | ⟨d, a, none, h⟩ :: r, ⟨d', a', none, h'⟩ :: r' => andB (dEq d d') (andB (aEq a a') (andB (Nat.beq h h') (oEq r r')))
  | _, _ => false
def cEq : ACode -> ACode -> Bool
  | .skip, .skip => true
  | .never, .never => true
  | .ops a, .ops b => oEq a b
  | .seq a b, .seq a' b' => andB (cEq a a') (cEq b b')
  | .cond (.s t) a b, .cond (.s t') a' b' => andB (Nat.beq t t') (andB (cEq a a') (cEq b b'))
  | _, _ => false
theorem andB_t {a b : Bool} (h : andB a b = true) : a = true ∧ b = true := by cases a <;> simp_all [andB]
theorem dEq_eq {a b : Option Nat} (h : dEq a b = true) : a = b := by
  unfold dEq at h
  split at h
  · rfl
  · rw [nbeq_true h]
  · cases h
theorem aEq_eq {a b : AAct} (h : aEq a b = true) : a = b := by
  unfold aEq at h
  split at h
  · rw [nbeq_true h]
  · rw [nbeq_true h]
  · obtain ⟨h1, h2⟩ := andB_t h; rw [nbeq_true h1, nbeq_true h2]
  · obtain ⟨h1, h2⟩ := andB_t h; rw [nbeq_true h1, nbeq_true h2]
  · rw [nbeq_true h]
  · obtain ⟨h1, h2⟩ := andB_t h; rw [nbeq_true h1, nbeq_true h2]
  · obtain ⟨h1, h2⟩ := andB_t h; obtain ⟨h2, h3⟩ := andB_t h2; rw [nbeq_true h1, nbeq_true h2, nbeq_true h3]
  · rw [nbeq_true h]
  · obtain ⟨h1, h2⟩ := andB_t h; rw [nbeq_true h1, nbeq_true h2]
  · cases h
theorem oEq_eq : ∀ {a b : List AOper}, oEq a b = true -> a = b := by
  intro a
  induction a with
  | nil => intro b h; cases b with | nil => rfl | cons y ys => cases h
  | cons x xs ih =>
    intro b h
    cases b with
    | nil => obtain ⟨d, a, g, h'⟩ := x; cases g <;> cases h
    | cons y ys =>
      obtain ⟨d, a, g, h0⟩ := x
      obtain ⟨d', a', g', h'⟩ := y
      cases g with
      | some g => cases h
      | none =>
        cases g' with
        | some g' => cases h
        | none =>
          obtain ⟨h1, h2⟩ := andB_t h
          obtain ⟨h2, h3⟩ := andB_t h2
          obtain ⟨h3, h4⟩ := andB_t h3
          rw [dEq_eq h1, aEq_eq h2, nbeq_true h3, ih h4]
theorem cEq_eq : ∀ {a b : ACode}, cEq a b = true -> a = b := by
  intro a
  induction a with
  | skip => intro b h; cases b <;> first | rfl | cases h
  | never => intro b h; cases b <;> first | rfl | cases h
  | ops l => intro b h; cases b <;> first | (rw [oEq_eq h]) | cases h
  | seq x y ih1 ih2 =>
    intro b h
    cases b with
    | seq x' y' => obtain ⟨h1, h2⟩ := andB_t h; rw [ih1 h1, ih2 h2]
    | _ => cases h
  | cond c x y ih1 ih2 =>
    intro b h
    cases b with
    | cond c' x' y' =>
      cases c with
      | c v => cases h
      | s t =>
        cases c' with
        | c v => cases h
        | s t' =>
          obtain ⟨h1, h2⟩ := andB_t h
          obtain ⟨h2, h3⟩ := andB_t h2
          rw [nbeq_true h1, ih1 h2, ih2 h3]
    | _ => cases c <;> exact absurd h (by simp [cEq])
  | _ => intro b h; cases b <;> cases h
theorem cc_sound {P : Program} {N e p : Nat} {H : Heap} {a : AV} {as : List AV} (hc : H[p]? = some (.cells (a :: as))) (ha : a = .v (.pointer none) ∨ a = .ptr p 0) (hl : 0 < as.length)
    (ht : tagged H p e = true) {Q : AExit -> St -> Prop} (hQ : ∀ (en : Env), Q .normal ⟨en, H⟩) (hQ' : ∀ (en : Env), Q .normal ⟨en, H.set p (.cells (.ptr p 0 :: as))⟩) :
    gc P N (mkCC e) Q ⟨envOf [.ptr p 0], H⟩ := by
  have hrd : readA H none (.ptr p 0) = some a := by simp only [readA, hc]; rfl
  have ld : ∀ (ρ : Env) (t : Nat), ρ t = .ptr p 0 -> MOp.run ρ H (.load none (.s t)) = some (a, H) := fun ρ t h => by
    simp only [MOp.run, AX.ev, h, hrd, Option.map_some]
  have rt : ∀ (ρ : Env) (t : Nat), ρ t = .ptr p 0 -> MOp.run ρ H (.ext (.retype e 2 (.s t))) = some (.ptr p 0, H) := fun ρ t h => by
    simp only [MOp.run, XOp.run, AX.ev, h, ht, hc]
    rw [if_pos ⟨by simp, by simp; omega⟩]
    rfl
  have st : ∀ (ρ : Env) (t u : Nat), ρ t = .ptr p 0 -> ρ u = .ptr p 0 -> MOp.run ρ H (.store none (.s t) (.s u)) = some (unit, H.set p (.cells (.ptr p 0 :: as))) := fun ρ t u h h' => by
    have hf : (AV.ptr p 0).flat = some [.ptr p 0] := rfl
    simp only [MOp.run, AX.ev, h, h', storeA, hf, hc]
    rw [if_pos ⟨rfl, by simp, rfl⟩]
    rfl
  have eq : ∀ (ρ : Env) (t u : Nat), ρ t = .ptr p 0 -> ρ u = .ptr p 0 -> MOp.run ρ H (.ext (.eqp true (.s t) (.s u))) = some (.v (.bool false), H) := fun ρ t u h h' => by
    simp [MOp.run, XOp.run, AX.ev, h, h']
  refine ⟨_, NormS.refl _ _, .ptr p 0, rfl, _, NormS.refl _ _, .ptr p 0, rfl, _, NormS.refl _ _, .ptr p 0, rfl, _, NormS.refl _ _, (a, H), ld _ 4 rfl, ?_⟩
  rcases ha with rfl | rfl
  · refine ⟨_, NormS.refl _ _, .v (.bool true), rfl, _, NormS.refl _ _, ?_⟩
    show gc P N (.ops _) _ _
    refine ⟨_, NormS.refl _ _, .ptr p 0, rfl, _, NormS.refl _ _, .ptr p 0, rfl, _, NormS.refl _ _, (.ptr p 0, H), rt _ 8 rfl, _, NormS.refl _ _, (.ptr p 0, H), rfl, _, NormS.refl _ _, (.ptr p 0, H), rt _ 10 rfl, _, NormS.refl _ _, .ptr p 0, rfl, _, NormS.refl _ _, .ptr p 0, rfl, _, NormS.refl _ _, (unit, H.set p (.cells (.ptr p 0 :: as))), st _ 13 11 rfl rfl, ?_⟩
    exact ⟨_, NormS.refl _ _, hQ' _⟩
  · refine ⟨_, NormS.refl _ _, .v (.bool false), rfl, _, NormS.refl _ _, ?_⟩
    show gc P N (.seq (.ops _) _) _ _
    refine ⟨_, NormS.refl _ _, .ptr p 0, rfl, _, NormS.refl _ _, .ptr p 0, rfl, _, NormS.refl _ _, .ptr p 0, rfl, _, NormS.refl _ _, (.ptr p 0, H), ld _ 16 rfl, _, NormS.refl _ _, .ptr p 0, rfl, _, NormS.refl _ _, (.v (.bool false), H), eq _ 17 18 rfl rfl, ?_⟩
    refine ⟨_, NormS.refl _ _, ?_⟩
    exact hQ _
end Go.Ab
