/- A part of a law's proof: SvLoop. -/
import Derived.Test.YtcikjedghklcoaaGreatSvKnown
set_option linter.constructorNameAsVariable false
/-
  Functions with loops as Lean functions: a run from head to head, again and again.
-/
namespace Go.Ab
open Go Go.RowKit
set_option linter.unusedVariables false
set_option linter.unusedSimpArgs false
variable {Θ : Nat -> Type}
def Cm.tot {α : Type} (d : α) : Cm α -> α
  | .ret a => a
  | .no => d
  | .ite b t e => bif b then t.tot d else e.tot d
  | .chk _ _ => d
  | .get _ _ => d
def Cm.total {α : Type} : Cm α -> Bool
  | .ret _ => true
  | .ite _ t e => match t.total with
    | true => e.total
    | false => false
  | _ => false
def Cm.map {α β : Type} (f : α -> β) : Cm α -> Cm β
  | .ret a => .ret (f a)
  | .no => .no
  | .ite b t e => .ite b (t.map f) (e.map f)
  | .chk p t => .chk p (t.map f)
  | .get o g => .get o fun x => (g x).map f
theorem Cm.den_map {α β : Type} {K : β -> Prop} {f : α -> β} : ∀ {t : Cm α}, (t.map f).den K ↔ t.den fun a => K (f a) := by
  intro t
  induction t with
  | ret a => exact Iff.rfl
  | no => exact Iff.rfl
  | ite b t e ih1 ih2 => exact and_congr (imp_congr Iff.rfl ih1) (imp_congr Iff.rfl ih2)
  | chk p t ih => exact and_congr Iff.rfl ih
  | get o g ih => exact exists_congr fun x => and_congr Iff.rfl (ih x)
theorem Cm.den_tot {α : Type} {K : α -> Prop} (d : α) : ∀ {t : Cm α}, t.total = true -> K (t.tot d) -> t.den K := by
  intro t
  induction t with
  | ret b => intro _ k; exact k
  | no => intro h; cases h
  | ite b t e ih1 ih2 =>
    intro h k
    simp only [Cm.total] at h
    split at h
    · rename_i ht
      cases b with
      | true => exact ⟨fun _ => ih1 ht k, fun hb => by cases hb⟩
      | false => exact ⟨fun hb => (by cases hb), fun _ => ih2 h k⟩
    · cases h
  | chk p t ih => intro h; cases h
  | get o f ih => intro h; cases h
def iterN {σ ρ : Type} (f : σ -> Option (σ ⊕ ρ)) : Nat -> σ -> Option ρ
  | 0, _ => none
  | n + 1, s => match f s with
    | none => none
    | some (.inl s') => iterN f n s'
    | some (.inr r) => some r
open Classical in
noncomputable def iter {σ ρ : Type} (f : σ -> Option (σ ⊕ ρ)) (s : σ) : Option ρ :=
  if h : ∃ n r, iterN f n s = some r then some h.choose_spec.choose else none
abbrev Trip (Θ : Nat -> Type) := List (Fr Θ) × SEnv Θ × SHeap Θ
def lfC (hs : List (List Nat × Hint)) (sh : Sh) : Lf Θ -> Cm (Trip Θ ⊕ SV Θ)
  | .fin w S => (frzT S sh w).map .inr
  | .at fs ρ S => match hintGet hs (sigOf fs) with
    | some h => (canon h fs ρ S).map .inl
    | none => .ret (.inl (fs, ρ, S))
noncomputable def startC (C : Cod Θ) (T : List (Nat × FI)) (K : KnownF Θ) (x : FI) (hs : List (List Nat × Hint)) (sh : Sh) (n : Nat) (args : List (SV Θ)) : Cm (Trip Θ ⊕ SV Θ) :=
  (run C T K x.rs n (.ex x.n x.code) [] (argsEnv args 0) []).bind (lfC hs sh)
section
variable {C : Cod Θ} {P : Program} {KN : KnownF Θ} {T : List (Nat × FI)} {hs : List (List Nat × Hint)} {sh : Sh} {rs : List ARes} {K : SV Θ -> Prop}
def TrU (P : Program) (C : Cod Θ) (rs : List ARes) (K : SV Θ -> Prop) : Trip Θ ⊕ SV Θ -> Prop
  | .inl t => UW P C rs K t.1 t.2.1 t.2.2
  | .inr v => K v
theorem lfC_sound {l : Lf Θ} (h : (lfC hs sh l).den (TrU P C rs K)) : LfU P C rs hs sh K l := by
  cases l with
  | fin w S => exact (Cm.den_map (f := Sum.inr) (K := TrU P C rs K)).1 h
  | «at» fs ρ S =>
    simp only [lfC] at h
    simp only [LfU]
    split at h
    · rename_i hh; rw [hh]; exact (Cm.den_map (f := Sum.inl) (K := TrU P C rs K)).1 h
    · rename_i hh; rw [hh]; exact h
variable {L R : Type} {m : L -> Trip Θ} {enc : R -> SV Θ} {g : L -> Cm (L ⊕ R)}
theorem one_sound (ok : CodOk C) (ko : KnownOk P C KN) (hT : ∀ p ∈ T, Knows P p.1 p.2) {n : Nat} {f : Nat} {x : FI} (hk : Knows P f x) {args : List (SV Θ)} (hl : Nat.ble args.length x.n = true) (ha : SV.shut.shutL args = true) {s0 : Cm R}
    (hS : startC C T KN x [] sh n args = s0.map (fun r => .inr (enc r))) {K : SV Θ -> Prop} (h : s0.den fun r => K (enc r)) : PCall P C f args K := by
  refine PCall.start ok ko hT hk hl ha n (hs := []) (sh := sh) ?_
  refine Cm.den_mono (fun l h => lfC_sound h) (Cm.den_bind (f := lfC [] sh) ?_)
  show (startC C T KN x [] sh n args).den _
  rw [hS, Cm.den_map]
  exact h
end
end Go.Ab
