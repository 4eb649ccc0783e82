/- A part of a law's proof: SvPure. -/
import Derived.Test.YtjkcjbkkgkhljaaAbLaw
import Derived.Test.YtjkcjbkkgkhljaaSvCanon
set_option linter.constructorNameAsVariable false
/-
  Functions that hang on their arguments alone, out of symbolic runs.
-/
namespace Go.Ab
open Go Go.RowKit
set_option linter.unusedVariables false
set_option linter.unusedSimpArgs false
variable {Θ : Nat -> Type}
def PCall (P : Program) (C : Cod Θ) (f : FuncId) (args : List (SV Θ)) (K : SV Θ -> Prop) : Prop :=
  ∀ H, ACalls P f (args.map (SV.av C)) H fun r H' => H' = H ∧ ∃ y, r = SV.av C y ∧ y.shut = true ∧ K y
theorem PCall.pure {P : Program} {C : Cod Θ} {f : FuncId} {args : List (SV Θ)} {v : SV Θ} (h : PCall P C f args (· = v)) : PureCall P f (args.map (SV.av C)) (v.av C) :=
  fun H => (h H).mono fun r H' ⟨h1, y, h2, _, h3⟩ => ⟨by rw [h2, h3], h1⟩
theorem PCall.mono {P : Program} {C : Cod Θ} {f : FuncId} {args : List (SV Θ)} {K K' : SV Θ -> Prop} (h : PCall P C f args K) (hk : ∀ y, K y -> K' y) : PCall P C f args K' :=
  fun H => (h H).mono fun r H' ⟨h1, y, h2, h3, h4⟩ => ⟨h1, y, h2, h3, hk y h4⟩
def Qp (C : Cod Θ) (H0 : Heap) (K : SV Θ -> Prop) (r : AV) (H' : Heap) : Prop :=
  ∃ L y, H' = H0 ++ L ∧ Frz H' H0.length r (SV.av C y) ∧ y.shut = true ∧ K y
def UW (P : Program) (C : Cod Θ) (rs : List ARes) (K : SV Θ -> Prop) (fs : List (Fr Θ)) (ρ : SEnv Θ) (S : SHeap Θ) : Prop :=
  ∀ H0, CW P C (noBase H0) rs (Qp C H0 K) fs ρ S
def codeKey : ACode -> Nat
  | .ops l => opsKey l
  | .draw l => opsKey l
  | .drawk l _ => opsKey l
  | .seq a b => match codeKey a with
    | 0 => codeKey b
    | n + 1 => n + 1
  | .cond _ a b => match codeKey a with
    | 0 => codeKey b
    | n + 1 => n + 1
  | .block _ a => codeKey a
  | .loop a => codeKey a
  | _ => 0
where
  opsKey : List AOper -> Nat
  | [] => 0
  | o :: os => match o.dst with
    | some d => d + 1
    | none => opsKey os
def sigOf : List (Fr Θ) -> List Nat
  | [] => []
  | .lp N a :: fs => (1000 * N + codeKey a) :: sigOf fs
  | .cal _ (some d) _ :: fs => (1000000 + d) :: sigOf fs
  | .cal _ none _ :: fs => 1000000 :: sigOf fs
  | _ :: fs => sigOf fs
def sameL : List Nat -> List Nat -> Bool
  | [], [] => true
  | x :: xs, y :: ys => match Nat.beq x y with
    | true => sameL xs ys
    | false => false
  | _, _ => false
def hintGet : List (List Nat × Hint) -> List Nat -> Option Hint
  | [], _ => none
  | (k, h) :: r, s => match sameL k s with
    | true => some h
    | false => hintGet r s
def LfU (P : Program) (C : Cod Θ) (rs : List ARes) (hs : List (List Nat × Hint)) (sh : Sh) (K : SV Θ -> Prop) : Lf Θ -> Prop
  | .fin w S => (frzT S sh w).den K
  | .at fs ρ S => match hintGet hs (sigOf fs) with
    | some h => (canon h fs ρ S).den fun r => UW P C rs K r.1 r.2.1 r.2.2
    | none => UW P C rs K fs ρ S
section
variable {C : Cod Θ} {ι : Emb} {S : SHeap Θ} {H H0 : Heap} {P : Program} {K : SV Θ -> Prop}
variable {rs : List ARes} {hs : List (List Nat × Hint)} {sh : Sh} {KN : KnownF Θ} {T : List (Nat × FI)}
theorem lfU_sound (ok : CodOk C) {l : Lf Θ} (h : LfU P C rs hs sh K l) (H0 : Heap) : LfP P C (noBase H0) rs (Qp C H0 K) l := by
  cases l with
  | fin w S =>
    intro ι r H hr hh
    obtain ⟨y, h1, h2, h3⟩ := frzT_sound ok hh hr h
    have hb : ∀ p, p < H0.length -> H[p]? = H0[p]? := fun p hp => hh.base p hp (fun h => h.elim)
    refine ⟨H.drop H0.length, y, ?_, h1, h2, h3⟩
    have hbig := hh.big
    apply List.ext_getElem?
    intro i
    rcases Nat.lt_or_ge i H0.length with hi | hi
    · rw [List.getElem?_append_left hi, hb i hi]
    · rw [List.getElem?_append_right hi, List.getElem?_drop]; congr 1; omega
  | «at» fs ρ S =>
    simp only [LfU] at h
    split at h
    · exact canon_sound ok (Nat.zero_le _) (Cm.den_mono (fun r h => h H0) h)
    · exact h H0
theorem PCall.start (ok : CodOk C) (ko : KnownOk P C KN) (hT : ∀ p ∈ T, Knows P p.1 p.2) {f : Nat} {x : FI} (hk : Knows P f x) {args : List (SV Θ)} (hl : Nat.ble args.length x.n = true) (ha : SV.shut.shutL args = true) (n : Nat)
    (h : (run C T KN x.rs n (.ex x.n x.code) [] (argsEnv args 0) []).den (LfU P C x.rs hs sh K)) : PCall P C f args K := by
  intro H0
  have hl' := Nat.le_of_ble_eq_true hl
  have h1 := Cm.den_mono (fun l h => lfU_sound ok (l := l) h H0) h
  have hargs : RVs C ([] : Emb) args (args.map (SV.av C)) := by
    refine ⟨by simp, fun i x a hx hxa => ?_⟩
    simp only [List.getElem?_map, hx, Option.map_some, Option.some.injEq] at hxa
    subst hxa
    exact RV.of_av (shutL_get ha i x hx)
  have r0 : RH C (noBase H0) ([] : Emb) ([] : SHeap Θ) H0 := ⟨rfl, fun o p h => by simp at h, fun o o' p h => by simp at h, fun o p x h => by simp at h, fun o x h => by simp at h, fun j q t h => by simp at h, fun o p h => by simp at h, Nat.le_refl _, fun p _ _ => rfl, fun i x h => by simp [noBase] at h⟩
  have h2 := run_sound (A := noBase H0) (rs0 := x.rs) (Qf := Qp C H0 K) ok ko hT n _ _ _ _ h1 [] ⟨envOf (args.map (SV.av C)), H0⟩ _ .nil (RE.args hargs) r0
  have key : ∀ (r : AV) (H' : Heap), Qp C H0 K r H' -> ∃ L r', H' = H0 ++ L ∧ Frz H' H0.length r r' ∧ (H0 = H0 ∧ ∃ y, r' = SV.av C y ∧ y.shut = true ∧ K y) := fun r H' ⟨L, y, k1, k2, k3, k4⟩ => ⟨L, _, k1, k2, rfl, y, rfl, k3, k4⟩
  exact ACalls.frz ((callG (H := H0) hk (by simpa using hl') h2).mono key)
theorem UW.round (ok : CodOk C) (ko : KnownOk P C KN) (hT : ∀ p ∈ T, Knows P p.1 p.2) (n : Nat) {N : Nat} {a : ACode} {fs : List (Fr Θ)} {ρ : SEnv Θ} {S : SHeap Θ}
    (h : (run C T KN rs n (.ex N a) (.lp N a :: fs) ρ S).den (LfU P C rs hs sh K)) : UW P C rs K (.lp N a :: fs) ρ S :=
  fun H0 => CW.round ok ko hT n (Cm.den_mono (fun l h => lfU_sound ok (l := l) h H0) h)
end
end Go.Ab
