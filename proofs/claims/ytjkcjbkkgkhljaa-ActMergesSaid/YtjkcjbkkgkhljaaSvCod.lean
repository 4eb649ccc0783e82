/- A part of a law's proof: SvCod. -/
import Derived.Test.YtjkcjbkkgkhljaaSvPure
set_option linter.constructorNameAsVariable false
/-
  How typed elements lie in cells: made out of lists of kinds.
-/
namespace Go.Ab
open Go Go.RowKit
set_option linter.unusedVariables false
set_option linter.unusedSimpArgs false
inductive Ty where
  | i (k : IntKind)
  | b
  | s
  | l (c : Nat)
variable {Θ : Nat -> Type}
@[reducible] def Ty.T (Θ : Nat -> Type) : Ty -> Type
  | .i _ => Int
  | .b => Bool
  | .s => List UInt8
  | .l c => List (Θ c)
@[reducible] def Tup (Θ : Nat -> Type) : List Ty -> Type
  | [] => Unit
  | t :: ts => t.T Θ × Tup Θ ts
def cellG : (t : Ty) -> t.T Θ -> SV Θ
  | .i k, x => .i k x
  | .b, x => .b x
  | .s, x => .s x
  | .l c, x => .lst c x
def cellsG : (ts : List Ty) -> Tup Θ ts -> List (SV Θ)
  | [], _ => []
  | t :: ts, x => cellG t x.1 :: cellsG ts x.2
def decV : (t : Ty) -> SV Θ -> Option (t.T Θ)
  | .i k, x => match x with
    | .i k' n => if k' = k then some n else none
    | _ => none
  | .b, x => match x with
    | .b t => some t
    | .kb t => some t
    | _ => none
  | .s, x => match x with
    | .s l => some l
    | _ => none
  | .l c, x => match x with
    | .lst c' xs => sCast c c' xs
    | _ => none
def decG : (ts : List Ty) -> List (SV Θ) -> Option (Tup Θ ts)
  | [], l => match l with
    | [] => some ()
    | _ :: _ => none
  | t :: ts, l => match l with
    | [] => none
    | x :: xs => match decV t x with
      | some y => match decG ts xs with
        | some ys => some (y, ys)
        | none => none
      | none => none
def zerV (t : Ty) (x : SV Θ) : Option (t.T Θ) :=
  match decV t x with
  | some y => some y
  | none => match t, x with
    | .l _, .v (.slice none 0 0) => some []
    | .l _, .z0 => some []
    | _, _ => none
def zerG : (ts : List Ty) -> List (SV Θ) -> Option (Tup Θ ts)
  | [], l => match l with
    | [] => some ()
    | _ :: _ => none
  | t :: ts, l => match l with
    | [] => none
    | x :: xs => match zerV t x with
      | some y => match zerG ts xs with
        | some ys => some (y, ys)
        | none => none
      | none => none
structure CodG (Θ : Nat -> Type) where
  lay : Nat -> Option Nat
  ty : Nat -> List Ty
  to : (c : Nat) -> Θ c -> Tup Θ (ty c)
  fr : (c : Nat) -> Tup Θ (ty c) -> Θ c
  avs : (c : Nat) -> Θ c -> List AV
def leafK : List Ty -> Option (List Leaf)
  | [] => some []
  | t :: ts => match t with
    | .i k => match leafK ts with
      | some r => some (.int k :: r)
      | none => none
    | .b => match leafK ts with
      | some r => some (.bool :: r)
      | none => none
    | .s => match leafK ts with
      | some r => some (.str :: r)
      | none => none
    | .l _ => none
def CodG.cod (G : CodG Θ) : Cod Θ where
  lay := G.lay
  cells c x := cellsG (G.ty c) (G.to c x)
  dec c l := match decG (G.ty c) l with
    | some y => some (G.fr c y)
    | none => none
  ty8 c := match G.ty c with
    | [.i .u8] => true
    | _ => false
  avs := G.avs
  kty c := leafK (G.ty c)
  zer c zs := match zerG (G.ty c) zs with
    | some y => some (G.fr c y)
    | none => none
structure CodGOk (G : CodG Θ) : Prop where
  len : ∀ c, (G.ty c).length = laySize (G.lay c)
  to_fr : ∀ c y, G.to c (G.fr c y) = y
  av : ∀ c x, (cellsG (G.ty c) (G.to c x)).map (SV.av G.cod) = G.avs c x
  shut : ∀ c x, ∀ a ∈ G.avs c x, AV.shut a = true
  fr_to : ∀ c x, G.fr c (G.to c x) = x
theorem leafK_eq {C : Cod Θ} : ∀ {ts : List Ty} {ks : List Leaf}, leafK ts = some ks -> ∀ (u v : Tup Θ ts), leavesEq ks ((cellsG ts u).map (SV.av C)) ((cellsG ts v).map (SV.av C)) = some (@decide (u = v) (Classical.propDecidable _)) := by
  intro ts
  induction ts with
  | nil =>
    intro ks h u v
    simp only [leafK, Option.some.injEq] at h
    subst h
    have : u = v := rfl
    simp [cellsG, leavesEq, this]
  | cons t ts ih =>
    intro ks h u v
    have step : ∀ (k : Leaf) (r : List Leaf), leafK ts = some r -> ks = k :: r -> leafEq k ((cellG t u.1).av C) ((cellG t v.1).av C) = some (@decide (u.1 = v.1) (Classical.propDecidable _)) ->
        leavesEq ks ((cellsG (t :: ts) u).map (SV.av C)) ((cellsG (t :: ts) v).map (SV.av C)) = some (@decide (u = v) (Classical.propDecidable _)) := by
      intro k r hr hk he
      subst hk
      simp only [cellsG, List.map_cons, leavesEq, he, ih hr u.2 v.2]
      congr 1
      rw [Bool.eq_iff_iff]
      simp only [Bool.and_eq_true, decide_eq_true_eq]
      exact ⟨fun h => Prod.ext h.1 h.2, fun h => by rw [h]; exact ⟨rfl, rfl⟩⟩
    cases t with
    | i k =>
      simp only [leafK] at h
      split at h
      · rename_i r hr
        cases h
        refine step (.int k) r hr rfl ?_
        simp only [cellG, SV.av, leafEq, and_self, if_true]
        congr 1
        rw [Bool.eq_iff_iff]
        simp
      · cases h
    | b =>
      simp only [leafK] at h
      split at h
      · rename_i r hr
        cases h
        refine step .bool r hr rfl ?_
        simp only [cellG, SV.av, leafEq]
        congr 1
        rw [Bool.eq_iff_iff]
        simp
      · cases h
    | s =>
      simp only [leafK] at h
      split at h
      · rename_i r hr
        cases h
        refine step .str r hr rfl ?_
        simp only [cellG, SV.av, bytesV, leafEq, beq_ba]
        congr 1
        rw [Bool.eq_iff_iff]
        simp
      · cases h
    | l c => simp [leafK] at h
section
variable {C : Cod Θ} {ι : Emb}
theorem cellG_shut (t : Ty) (x : t.T Θ) : (cellG t x).shut = true := by cases t <;> rfl
theorem cellG_one (t : Ty) (x : t.T Θ) : AV.one ((cellG t x).av C) = true := by cases t <;> rfl
theorem cellsG_shut : ∀ (ts : List Ty) (x : Tup Θ ts), ∀ y ∈ cellsG ts x, y.shut = true := by
  intro ts
  induction ts with
  | nil => intro x y hy; simp [cellsG] at hy
  | cons t ts ih =>
    intro x y hy
    simp only [cellsG, List.mem_cons] at hy
    rcases hy with rfl | hy
    · exact cellG_shut t _
    · exact ih _ y hy
theorem cellsG_one : ∀ (ts : List Ty) (x : Tup Θ ts), ∀ y ∈ cellsG ts x, AV.one (y.av C) = true := by
  intro ts
  induction ts with
  | nil => intro x y hy; simp [cellsG] at hy
  | cons t ts ih =>
    intro x y hy
    simp only [cellsG, List.mem_cons] at hy
    rcases hy with rfl | hy
    · exact cellG_one t _
    · exact ih _ y hy
theorem cellsG_length : ∀ (ts : List Ty) (x : Tup Θ ts), (cellsG ts x).length = ts.length := by
  intro ts
  induction ts with
  | nil => intro x; rfl
  | cons t ts ih => intro x; simp [cellsG, ih]
theorem decV_rv {t : Ty} {x : SV Θ} {y : t.T Θ} (h : decV t x = some y) {a : AV} (hx : RV C ι x a) : a = (cellG t y).av C := by
  cases t with
  | i k =>
    simp only [decV] at h
    split at h
    · split at h
      · rename_i hk; subst hk; cases h; cases hx; rfl
      · cases h
    · cases h
  | b =>
    simp only [decV] at h
    split at h
    · cases h; cases hx; rfl
    · cases h; cases hx; rfl
    · cases h
  | s =>
    simp only [decV] at h
    split at h
    · cases h; cases hx; rfl
    · cases h
  | l c =>
    simp only [decV] at h
    split at h
    · obtain ⟨e, he⟩ := cast_some h
      subst e
      have he : y = _ := he
      subst he
      cases hx; rfl
    · cases h
theorem decG_rv : ∀ {ts : List Ty} {l : List (SV Θ)} {y : Tup Θ ts}, decG ts l = some y -> ∀ {as : List AV}, RVs C ι l as -> as = (cellsG ts y).map (SV.av C) := by
  intro ts
  induction ts with
  | nil =>
    intro l y h as hr
    simp only [decG] at h
    split at h
    · rw [hr.unnil]; rfl
    · cases h
  | cons t ts ih =>
    intro l y h as hr
    simp only [decG] at h
    split at h
    · cases h
    · split at h
      · rename_i v hv
        split at h
        · rename_i vs hvs
          cases h
          obtain ⟨a, bs, rfl, ha, hb⟩ := hr.uncons
          simp only [cellsG, List.map_cons]
          rw [decV_rv hv ha, ih hvs hb]
        · cases h
      · cases h
end
theorem shL_nil : AV.shut.shutL [] = true := rfl
theorem shL_cons {a : AV} {as : List AV} (h : a.shut = true) (hs : AV.shut.shutL as = true) : AV.shut.shutL (a :: as) = true := by simp [AV.shut.shutL, h, hs]
theorem shL_mem {as : List AV} (h : AV.shut.shutL as = true) : ∀ a ∈ as, a.shut = true := by
  intro a ha
  obtain ⟨i, hi, rfl⟩ := List.getElem_of_mem ha
  exact shutL_all h i _ (by simp)
theorem shL_map {α : Type} {l : List α} {n : Nat} {f : α -> AV} (h : ∀ x, (f x).shut = true) : (AV.lst n (l.map f)).shut = true := by
  show AV.shut.shutL (l.map f) = true
  exact shutA_of fun a ha => by obtain ⟨x, _, rfl⟩ := List.mem_map.1 ha; exact h x
theorem zerV_as {C : Cod Θ} {ι : Emb} {t : Ty} {x : SV Θ} {y : t.T Θ} (h : zerV t x = some y) {a : AV} (hx : RV C ι x a) : a = (cellG t y).av C ∨ (a = nilSl ∨ a = .z0) ∧ ∃ sz, (cellG t y).av C = .lst sz [] := by
  unfold zerV at h
  split at h
  · rename_i y' hy
    cases h
    exact .inl (decV_rv hy hx)
  · split at h
    · cases h; cases hx; exact .inr ⟨.inl rfl, _, rfl⟩
    · cases h; cases hx; exact .inr ⟨.inr rfl, _, rfl⟩
    · cases h
theorem zerG_as {C : Cod Θ} {ι : Emb} : ∀ {ts : List Ty} {xs : List (SV Θ)} {y : Tup Θ ts}, zerG ts xs = some y -> ∀ {as : List AV}, RVs C ι xs as -> NilAs as ((cellsG ts y).map (SV.av C)) := by
  intro ts
  induction ts with
  | nil =>
    intro xs y h as hr
    simp only [zerG] at h
    split at h
    · rw [hr.unnil]; exact ⟨rfl, fun i a b ha => by simp at ha⟩
    · cases h
  | cons t ts ih =>
    intro xs y h as hr
    simp only [zerG] at h
    split at h
    · cases h
    · split at h
      · rename_i v hv
        split at h
        · rename_i vs hvs
          cases h
          obtain ⟨a, bs, rfl, h1, h2⟩ := hr.uncons
          have := ih hvs h2
          refine ⟨by simp [cellsG, this.1], fun i a b ha hb => ?_⟩
          cases i with
          | zero => simp [cellsG] at ha hb; subst ha; subst hb; exact zerV_as hv h1
          | succ i => exact this.2 i a b (by simpa using ha) (by simpa [cellsG] using hb)
        · cases h
      · cases h
theorem CodGOk.ok {G : CodG Θ} (g : CodGOk G) : CodOk G.cod where
  zer c zs x as ι h hr := by
    show NilAs as (G.avs c x)
    simp only [CodG.cod] at h
    split at h
    · rename_i y hy
      cases h
      rw [<- g.av, g.to_fr]
      exact zerG_as hy hr
    · cases h
  len c x := by
    show (G.avs c x).length = laySize (G.lay c)
    rw [<- g.av, List.length_map, cellsG_length, g.len]
  one c x a ha := by
    have ha : a ∈ G.avs c x := ha
    rw [<- g.av] at ha
    obtain ⟨y, hy, rfl⟩ := List.mem_map.1 ha
    exact cellsG_one _ _ y hy
  shut := g.shut
  rd c x ι := by
    show RVs G.cod ι (cellsG (G.ty c) (G.to c x)) (G.avs c x)
    rw [<- g.av]
    refine ⟨by simp, fun i y a hy ha => ?_⟩
    rw [List.getElem?_map, hy, Option.map_some, Option.some.injEq] at ha
    subst ha
    exact RV.of_av (cellsG_shut _ _ y (List.mem_of_getElem? hy))
  wr c l x as ι h hr := by
    show as = G.avs c x
    simp only [CodG.cod] at h
    split at h
    · rename_i y hy
      cases h
      rw [<- g.av, g.to_fr]
      exact decG_rv hy hr
    · cases h
  un8 c x h := by
    have h1 : G.ty c = [.i .u8] := by
      simp only [CodG.cod] at h
      split at h
      · assumption
      · cases h
    have key : ∀ (ts : List Ty) (y : Tup Θ ts), ts = [.i .u8] -> ∃ n, cellsG ts y = [.i .u8 n] := by
      intro ts y e; subst e; exact ⟨y.1, rfl⟩
    have hl := g.len c
    rw [h1] at hl
    exact ⟨hl.symm, key _ _ h1⟩
  to8 c n h := by
    have h1 : G.ty c = [.i .u8] := by
      simp only [CodG.cod] at h
      split at h
      · assumption
      · cases h
    have key : ∀ (ts : List Ty), ts = [.i .u8] -> ∃ y, decG (Θ := Θ) ts [.i .u8 n] = some y := by
      intro ts e; subst e; exact ⟨(n, ()), rfl⟩
    obtain ⟨y, hy⟩ := key _ h1
    exact ⟨G.fr c y, by simp only [CodG.cod, hy]⟩
  key c ks h x y := by
    have h : leafK (G.ty c) = some ks := h
    have e := leafK_eq (C := G.cod) h (G.to c x) (G.to c y)
    rw [g.av, g.av] at e
    have hxy : (@decide (G.to c x = G.to c y) (Classical.propDecidable _)) = (@decide (x = y) (Classical.propDecidable _)) := by
      rw [Bool.eq_iff_iff]
      simp only [decide_eq_true_eq]
      exact ⟨fun h => by rw [<- g.fr_to c x, h, g.fr_to], fun h => by rw [h]⟩
    rw [hxy] at e
    have hlx : (G.avs c x).length = laySize (G.lay c) := by rw [<- g.av, List.length_map, cellsG_length, g.len]
    have hly : (G.avs c y).length = laySize (G.lay c) := by rw [<- g.av, List.length_map, cellsG_length, g.len]
    show eqF ks (G.lay c).isSome (wrapA (G.lay c) (G.avs c x)) (wrapA (G.lay c) (G.avs c y)) = _
    cases hl : G.lay c with
    | some n => simp only [wrapA, Option.isSome_some, eqF, if_true]; exact e
    | none =>
      rw [hl] at hlx hly
      simp only [laySize] at hlx hly
      obtain ⟨a, ha⟩ := List.length_eq_one_iff.1 hlx
      obtain ⟨b, hb⟩ := List.length_eq_one_iff.1 hly
      rw [ha, hb] at e ⊢
      have hk : ks.length = 1 := by have := (leavesEq_length e).1; simpa using this.symm
      obtain ⟨k, rfl⟩ := List.length_eq_one_iff.1 hk
      simp only [wrapA, Option.isSome_none, eqF]
      simp only [leavesEq] at e
      split at e
      · rename_i p q hp hq
        simp only [Option.some.injEq] at hq
        subst hq
        simpa [hp] using e
      · cases e
end Go.Ab
