/- A part of a law's proof: SvLoop. -/
import Derived.Test.YtjkcjbkkgkhljaaSvKnown
set_option linter.constructorNameAsVariable false
/-
  Functions with loops as Lean functions: a run from head to head, again and again.
-/
namespace Go.Ab
open Go Go.RowKit
set_option linter.unusedVariables false
set_option linter.unusedSimpArgs false
variable {Θ : Nat -> Type}
noncomputable def Cm.opt {α : Type} : Cm α -> Option α
  | .ret a => some a
  | .no => none
  | .ite b t e => bif b then t.opt else e.opt
  | .chk p t => @_root_.ite _ p (Classical.propDecidable p) t.opt none
  | .get o f => o.bind fun x => (f x).opt
def Cm.tot {α : Type} (d : α) : Cm α -> α
  | .ret a => a
  | .no => d
  | .ite b t e => bif b then t.tot d else e.tot d
  | .chk _ _ => d
  | .get _ _ => d
def Cm.total {α : Type} : Cm α -> Bool
  | .ret _ => true
  | .ite _ t e => match t.total with
    | true => e.total
    | false => false
  | _ => false
def Cm.map {α β : Type} (f : α -> β) : Cm α -> Cm β
  | .ret a => .ret (f a)
  | .no => .no
  | .ite b t e => .ite b (t.map f) (e.map f)
  | .chk p t => .chk p (t.map f)
  | .get o g => .get o fun x => (g x).map f
theorem Cm.den_map {α β : Type} {K : β -> Prop} {f : α -> β} : ∀ {t : Cm α}, (t.map f).den K ↔ t.den fun a => K (f a) := by
  intro t
  induction t with
  | ret a => exact Iff.rfl
  | no => exact Iff.rfl
  | ite b t e ih1 ih2 => exact and_congr (imp_congr Iff.rfl ih1) (imp_congr Iff.rfl ih2)
  | chk p t ih => exact and_congr Iff.rfl ih
  | get o g ih => exact exists_congr fun x => and_congr Iff.rfl (ih x)
theorem Cm.den_opt {α : Type} {K : α -> Prop} {a : α} : ∀ {t : Cm α}, t.opt = some a -> K a -> t.den K := by
  intro t
  induction t with
  | ret b => intro h k; cases h; exact k
  | no => intro h; cases h
  | ite b t e ih1 ih2 =>
    intro h k
    cases b with
    | true => exact ⟨fun _ => ih1 h k, fun hb => by cases hb⟩
    | false => exact ⟨fun hb => (by cases hb), fun _ => ih2 h k⟩
  | chk p t ih =>
    intro h k
    simp only [Cm.opt] at h
    split at h
    · rename_i hp; exact ⟨hp, ih h k⟩
    · cases h
  | get o f ih =>
    intro h k
    simp only [Cm.opt, Option.bind_eq_some_iff] at h
    obtain ⟨x, hx, h⟩ := h
    exact ⟨x, hx, ih x h k⟩
theorem Cm.den_tot {α : Type} {K : α -> Prop} (d : α) : ∀ {t : Cm α}, t.total = true -> K (t.tot d) -> t.den K := by
  intro t
  induction t with
  | ret b => intro _ k; exact k
  | no => intro h; cases h
  | ite b t e ih1 ih2 =>
    intro h k
    simp only [Cm.total] at h
    split at h
    · rename_i ht
      cases b with
      | true => exact ⟨fun _ => ih1 ht k, fun hb => by cases hb⟩
      | false => exact ⟨fun hb => (by cases hb), fun _ => ih2 h k⟩
    · cases h
  | chk p t ih => intro h; cases h
  | get o f ih => intro h; cases h
def iterN {σ ρ : Type} (f : σ -> Option (σ ⊕ ρ)) : Nat -> σ -> Option ρ
  | 0, _ => none
  | n + 1, s => match f s with
    | none => none
    | some (.inl s') => iterN f n s'
    | some (.inr r) => some r
theorem iterN_mono {σ ρ : Type} {f : σ -> Option (σ ⊕ ρ)} : ∀ {n : Nat} {s : σ} {r : ρ}, iterN f n s = some r -> ∀ m, n <= m -> iterN f m s = some r := by
  intro n
  induction n with
  | zero => intro s r h; cases h
  | succ n ih =>
    intro s r h m hm
    obtain ⟨m, rfl⟩ : ∃ k, m = k + 1 := ⟨m - 1, by omega⟩
    simp only [iterN] at h ⊢
    split at h
    · cases h
    · exact ih h m (by omega)
    · exact h
open Classical in
noncomputable def iter {σ ρ : Type} (f : σ -> Option (σ ⊕ ρ)) (s : σ) : Option ρ :=
  if h : ∃ n r, iterN f n s = some r then some h.choose_spec.choose else none
theorem iter_some {σ ρ : Type} {f : σ -> Option (σ ⊕ ρ)} {s : σ} {r : ρ} : iter f s = some r ↔ ∃ n, iterN f n s = some r := by
  unfold iter
  constructor
  · intro h
    split at h
    · rename_i hh
      have := hh.choose_spec.choose_spec
      cases h
      exact ⟨_, this⟩
    · cases h
  · rintro ⟨n, hn⟩
    have hh : ∃ n r, iterN f n s = some r := ⟨n, r, hn⟩
    rw [dif_pos hh]
    have := hh.choose_spec.choose_spec
    have h1 := iterN_mono this (max hh.choose n) (by omega)
    have h2 := iterN_mono hn (max hh.choose n) (by omega)
    rw [h1] at h2
    exact h2
theorem iter_step {σ ρ : Type} (f : σ -> Option (σ ⊕ ρ)) (s : σ) : iter f s = (f s).bind (Sum.elim (iter f) some) := by
  have key : ∀ r, iter f s = some r ↔ (f s).bind (Sum.elim (iter f) some) = some r := by
    intro r
    rw [iter_some]
    constructor
    · rintro ⟨n, hn⟩
      cases n with
      | zero => cases hn
      | succ n =>
        simp only [iterN] at hn
        split at hn
        · cases hn
        · rename_i s' hs; rw [hs]; exact iter_some.2 ⟨n, hn⟩
        · rename_i r' hs; rw [hs]; exact hn
    · intro h
      cases hf : f s with
      | none => rw [hf] at h; cases h
      | some x =>
        rw [hf] at h
        cases x with
        | inl s' =>
          obtain ⟨n, hn⟩ := iter_some.1 (show iter f s' = some r from h)
          exact ⟨n + 1, by simp only [iterN, hf]; exact hn⟩
        | inr r' =>
          have : r' = r := by simpa using h
          subst this
          exact ⟨1, by simp only [iterN, hf]⟩
  cases h : iter f s with
  | some r => exact ((key r).1 h).symm
  | none =>
    cases h2 : (f s).bind (Sum.elim (iter f) some) with
    | none => rfl
    | some r => rw [(key r).2 h2] at h; cases h
noncomputable def loopO {σ ρ : Type} (g : σ -> Cm (σ ⊕ ρ)) : σ -> Option ρ := iter fun s => (g s).opt
noncomputable def runO {σ ρ : Type} (g : σ -> Cm (σ ⊕ ρ)) (s0 : Cm (σ ⊕ ρ)) : Option ρ := s0.opt.bind (Sum.elim (loopO g) some)
theorem loopO_step {σ ρ : Type} (g : σ -> Cm (σ ⊕ ρ)) (s : σ) : loopO g s = (g s).opt.bind (Sum.elim (loopO g) some) := iter_step _ s
abbrev Trip (Θ : Nat -> Type) := List (Fr Θ) × SEnv Θ × SHeap Θ
def lfC (hs : List (List Nat × Hint)) (sh : Sh) : Lf Θ -> Cm (Trip Θ ⊕ SV Θ)
  | .fin w S => (frzT S sh w).map .inr
  | .at fs ρ S => match hintGet hs (sigOf fs) with
    | some h => (canon h fs ρ S).map .inl
    | none => .ret (.inl (fs, ρ, S))
noncomputable def headC (C : Cod Θ) (T : List (Nat × FI)) (K : KnownF Θ) (rs : List ARes) (hs : List (List Nat × Hint)) (sh : Sh) (n : Nat) (st : Trip Θ) : Cm (Trip Θ ⊕ SV Θ) :=
  match st.1 with
  | .lp N a :: fs => (run C T K rs n (.ex N a) (.lp N a :: fs) st.2.1 st.2.2).bind (lfC hs sh)
  | _ => .no
noncomputable def startC (C : Cod Θ) (T : List (Nat × FI)) (K : KnownF Θ) (x : FI) (hs : List (List Nat × Hint)) (sh : Sh) (n : Nat) (args : List (SV Θ)) : Cm (Trip Θ ⊕ SV Θ) :=
  (run C T K x.rs n (.ex x.n x.code) [] (argsEnv args 0) []).bind (lfC hs sh)
section
variable {C : Cod Θ} {P : Program} {KN : KnownF Θ} {T : List (Nat × FI)} {hs : List (List Nat × Hint)} {sh : Sh} {rs : List ARes} {K : SV Θ -> Prop}
def TrU (P : Program) (C : Cod Θ) (rs : List ARes) (K : SV Θ -> Prop) : Trip Θ ⊕ SV Θ -> Prop
  | .inl t => UW P C rs K t.1 t.2.1 t.2.2
  | .inr v => K v
theorem lfC_sound {l : Lf Θ} (h : (lfC hs sh l).den (TrU P C rs K)) : LfU P C rs hs sh K l := by
  cases l with
  | fin w S => exact (Cm.den_map (f := Sum.inr) (K := TrU P C rs K)).1 h
  | «at» fs ρ S =>
    simp only [lfC] at h
    simp only [LfU]
    split at h
    · rename_i hh; rw [hh]; exact (Cm.den_map (f := Sum.inl) (K := TrU P C rs K)).1 h
    · rename_i hh; rw [hh]; exact h
theorem headC_sound (ok : CodOk C) (ko : KnownOk P C KN) (hT : ∀ p ∈ T, Knows P p.1 p.2) {n : Nat} {st : Trip Θ} (h : (headC C T KN rs hs sh n st).den (TrU P C rs K)) : UW P C rs K st.1 st.2.1 st.2.2 := by
  obtain ⟨fs, ρ, S⟩ := st
  unfold headC at h
  split at h
  · rename_i N a fs' e
    simp only at e h ⊢
    rw [e]
    exact UW.round ok ko hT n (Cm.den_mono (fun l h => lfC_sound h) (Cm.den_bind h))
  · exact h.elim
variable {L R : Type} {m : L -> Trip Θ} {enc : R -> SV Θ} {g : L -> Cm (L ⊕ R)}
theorem loopO_sound (ok : CodOk C) (ko : KnownOk P C KN) (hT : ∀ p ∈ T, Knows P p.1 p.2) {n : Nat} (hE : ∀ s, headC C T KN rs hs sh n (m s) = (g s).map (Sum.map m enc)) {s : L} {r : R} (h : loopO g s = some r) :
    UW P C rs (· = enc r) (m s).1 (m s).2.1 (m s).2.2 := by
  obtain ⟨k, hk⟩ := iter_some.1 h
  clear h
  induction k generalizing s with
  | zero => cases hk
  | succ k ih =>
    refine headC_sound ok ko hT (n := n) (hs := hs) (sh := sh) ?_
    rw [hE, Cm.den_map]
    simp only [iterN] at hk
    split at hk
    · cases hk
    · rename_i s' hs'
      exact Cm.den_opt hs' (ih hk)
    · rename_i r' hs'
      cases hk
      exact Cm.den_opt hs' rfl
theorem runO_sound (ok : CodOk C) (ko : KnownOk P C KN) (hT : ∀ p ∈ T, Knows P p.1 p.2) {n : Nat} (hE : ∀ s, headC C T KN rs hs sh n (m s) = (g s).map (Sum.map m enc))
    {f : Nat} {x : FI} (hk : Knows P f x) (hx : x.rs = rs) {args : List (SV Θ)} (hl : Nat.ble args.length x.n = true) (ha : SV.shut.shutL args = true) {s0 : Cm (L ⊕ R)}
    (hS : startC C T KN x hs sh n args = s0.map (Sum.map m enc)) {r : R} (h : runO g s0 = some r) : PCall P C f args (· = enc r) := by
  subst hx
  refine PCall.start ok ko hT hk hl ha n (hs := hs) (sh := sh) ?_
  refine Cm.den_mono (fun l h => lfC_sound h) (Cm.den_bind (f := lfC hs sh) ?_)
  show (startC C T KN x hs sh n args).den _
  rw [hS, Cm.den_map]
  simp only [runO, Option.bind_eq_some_iff] at h
  obtain ⟨y, hy, h⟩ := h
  refine Cm.den_opt hy ?_
  cases y with
  | inl s => exact loopO_sound ok ko hT hE h
  | inr r' =>
    have : r' = r := by simpa using h
    subst this; rfl
theorem one_sound (ok : CodOk C) (ko : KnownOk P C KN) (hT : ∀ p ∈ T, Knows P p.1 p.2) {n : Nat} {f : Nat} {x : FI} (hk : Knows P f x) {args : List (SV Θ)} (hl : Nat.ble args.length x.n = true) (ha : SV.shut.shutL args = true) {s0 : Cm R}
    (hS : startC C T KN x [] sh n args = s0.map (fun r => .inr (enc r))) {K : SV Θ -> Prop} (h : s0.den fun r => K (enc r)) : PCall P C f args K := by
  refine PCall.start ok ko hT hk hl ha n (hs := []) (sh := sh) ?_
  refine Cm.den_mono (fun l h => lfC_sound h) (Cm.den_bind (f := lfC [] sh) ?_)
  show (startC C T KN x [] sh n args).den _
  rw [hS, Cm.den_map]
  exact h
theorem known_opt {f : Nat} {tys : List ATy} {G : CodG Θ} {F : ATup Θ tys -> Option R} (h : ∀ y r, F y = some r -> PCall P G.cod f (encAs G tys y) (· = enc r)) (he : ∀ r, (enc r).shut = true) :
    ∀ y Q, (Cm.get (F y) fun r => .ret (enc r)).den Q -> ∃ v, Q v ∧ v.shut = true ∧ PCall P G.cod f (encAs G tys y) (· = v) :=
  fun y Q ⟨r, h1, h2⟩ => ⟨enc r, h2, he r, h y r h1⟩
theorem known_tot {f : Nat} {tys : List ATy} {G : CodG Θ} {F : ATup Θ tys -> R} (h : ∀ y, PCall P G.cod f (encAs G tys y) (· = enc (F y))) (he : ∀ r, (enc r).shut = true) :
    ∀ y Q, (Cm.ret (enc (F y)) : Cm (SV Θ)).den Q -> ∃ v, Q v ∧ v.shut = true ∧ PCall P G.cod f (encAs G tys y) (· = v) :=
  fun y Q h1 => ⟨enc (F y), h1, he _, h y⟩
theorem scal_opt {tys : List ATy} {F : ATup Θ tys -> Option R} (he : ∀ r, (enc r).sc = true) : ∀ y Q, (Cm.get (F y) fun r => .ret (enc r)).den Q -> (Cm.get (F y) fun r => .ret (enc r)).den fun v => Q v ∧ v.sc = true :=
  fun y Q ⟨r, h1, h2⟩ => ⟨r, h1, h2, he r⟩
theorem scal_tot {tys : List ATy} {F : ATup Θ tys -> R} (he : ∀ r, (enc r).sc = true) : ∀ y Q, (Cm.ret (enc (F y)) : Cm (SV Θ)).den Q -> (Cm.ret (enc (F y)) : Cm (SV Θ)).den fun v => Q v ∧ v.sc = true :=
  fun y Q h => ⟨h, he _⟩
end
end Go.Ab
