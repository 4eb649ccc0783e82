/- A part of a law's proof: SvCanon. -/
import Derived.Test.YtjkcjbkkgkhljaaSvReb
set_option linter.constructorNameAsVariable false
/-
  At the head of a loop: what is kept, and how objects are numbered anew.
-/
namespace Go.Ab
open Go Go.RowKit
set_option linter.unusedVariables false
set_option linter.unusedSimpArgs false
variable {Θ : Nat -> Type}
def idxOf : List Nat -> Nat -> Nat -> Option Nat
  | [], _, _ => none
  | x :: xs, o, i => match Nat.beq x o with
    | true => some i
    | false => idxOf xs o (i + 1)
def SV.ren (π : List Nat) : SV Θ -> SV Θ
  | .sl c o off len cap => match idxOf π o 0 with
    | some j => .sl c j off len cap
    | none => .any
  | .ptr o off => match idxOf π o 0 with
    | some j => .ptr j off
    | none => .any
  | .eptr c o k off => match idxOf π o 0 with
    | some j => .eptr c j k off
    | none => .any
  | .mp o => match idxOf π o 0 with
    | some j => .mp j
    | none => .any
  | .agg cs => .agg (renL π cs)
  | .tup cs => .tup (renL π cs)
  | .fn f cs => .fn f (renL π cs)
  | .ifc t x => .ifc t (x.ren π)
  | .rp x => .rp (x.ren π)
  | .self o => match idxOf π o 0 with
    | some j => .self j
    | none => .any
  | .sd c o => match idxOf π o 0 with
    | some j => .sd c j
    | none => .any
  | .bl c o len => match idxOf π o 0 with
    | some j => .bl c j len
    | none => .any
  | x => x
where
  renL (π : List Nat) : List (SV Θ) -> List (SV Θ)
  | [] => []
  | x :: xs => x.ren π :: renL π xs
def SO.ren (π : List Nat) : SO Θ -> SO Θ
  | .box cs => .box (SV.ren.renL π cs)
  | .arr c xs => .arr c xs
  | .map c d es => .map c d es
  | .tag o t => match idxOf π o 0 with
    | some j => .tag j t
    | none => .dead
  | _ => .dead
def renHeap (S : SHeap Θ) (π : List Nat) : List Nat -> Option (SHeap Θ)
  | [] => some []
  | o :: os => match sNth S o with
    | some x => match renHeap S π os with
      | some r => some (x.ren π :: r)
      | none => none
    | none => none
def keepEnv (π : List Nat) (ρ : SEnv Θ) : List Nat -> SEnv Θ
  | [] => []
  | t :: ts => (t, (ρ.get t).ren π) :: keepEnv π ρ ts
def keepFs (π : List Nat) : List (List Nat) -> List (Fr Θ) -> List (Fr Θ)
  | _, [] => []
  | ls, .cal ρ d rs :: fs => match ls with
    | l :: ls => .cal (keepEnv π ρ l) d rs :: keepFs π ls fs
    | [] => .cal [] d rs :: keepFs π [] fs
  | ls, f :: fs => f :: keepFs π ls fs
def nodupB : List Nat -> Bool
  | [] => true
  | x :: xs => match idxOf xs x 0 with
    | some _ => false
    | none => nodupB xs
def refsOf : SV Θ -> List Nat
  | .sl _ o _ _ _ => [o]
  | .ptr o _ => [o]
  | .eptr _ o _ _ => [o]
  | .mp o => [o]
  | .self o => [o]
  | .sd _ o => [o]
  | .bl _ o _ => [o]
  | .agg cs => refsL cs
  | .tup cs => refsL cs
  | .fn _ cs => refsL cs
  | .ifc _ x => refsOf x
  | _ => []
where
  refsL : List (SV Θ) -> List Nat
  | [] => []
  | x :: r => refsOf x ++ refsL r
def refsEnv (ρ : SEnv Θ) : List Nat -> List Nat
  | [] => []
  | t :: ts => refsOf (ρ.get t) ++ refsEnv ρ ts
def refsFs : List (List Nat) -> List (Fr Θ) -> List Nat
  | _, [] => []
  | ls, .cal ρ _ _ :: fs => match ls with
    | l :: ls => refsEnv ρ l ++ refsFs ls fs
    | [] => refsFs [] fs
  | ls, _ :: fs => refsFs ls fs
def visit (S : SHeap Θ) : Nat -> List Nat -> List Nat -> List Nat
  | 0, _, seen => seen
  | n + 1, todo, seen => match todo with
    | [] => seen
    | o :: os => match idxOf seen o 0 with
      | some _ => visit S n os seen
      | none => match sNth S o with
        | some (.box cs) => visit S n (refsOf.refsL cs ++ os) (seen ++ [o])
        | some (.arr _ _) => visit S n os (seen ++ [o])
        | some (.map _ _ _) => visit S n os (seen ++ [o])
        | _ => visit S n os seen
def upTo : Nat -> List Nat
  | 0 => []
  | n + 1 => upTo n ++ [n]
def rootRefs (S : SHeap Θ) : List Nat -> List Nat
  | [] => []
  | o :: os => match sNth S o with
    | some (.box cs) => refsOf.refsL cs ++ rootRefs S os
    | _ => rootRefs S os
def tagsIn (π : List Nat) : Nat -> SHeap Θ -> List Nat
  | _, [] => []
  | i, .tag o _ :: r => match idxOf π o 0 with
    | some _ => i :: tagsIn π (i + 1) r
    | none => tagsIn π (i + 1) r
  | i, _ :: r => tagsIn π (i + 1) r
structure Hint where
  live : List Nat
  cals : List (List Nat)
  own : List (Nat × Nat)
  ownB : List (Nat × Nat × Nat)
  kbs : List Nat
  whole : List Nat
  wholeB : List (Nat × Nat)
  nr : Nat := 0
  lsts : List (Nat × Nat) := []
def isNil : SV Θ -> Bool
  | .v (.slice none 0 0) => true
  | .z0 => true
  | _ => false
def ownEnv : List (Nat × Nat) -> SEnv Θ -> SHeap Θ -> SEnv Θ × SHeap Θ
  | [], ρ, S => (ρ, S)
  | (t, c) :: r, ρ, S => match isNil (ρ.get t) with
    | true => ownEnv r ((t, .sl c S.length 0 0 none) :: ρ) (S ++ [.arr c []])
    | false => ownEnv r ρ S
def boxAt (x : SV Θ) (off : Nat) : Option (Nat × Nat) :=
  match x with
  | .ptr o _ => some (o, off)
  | .fn _ cap => match sNth cap (off / 1000) with
    | some (.ptr o _) => some (o, off % 1000)
    | _ => none
  | _ => none
def ownBox : List (Nat × Nat × Nat) -> SEnv Θ -> SHeap Θ -> SHeap Θ
  | [], ρ, S => S
  | (t, off', c) :: r, ρ, S => match boxAt (ρ.get t) off' with
    | some (o, off) => match sNth S o with
      | some (.box cs) => match sNth cs off with
        | some x => match isNil x with
          | true => ownBox r ρ (S.set o (.box (cs.set off (.sl c S.length 0 0 none))) ++ [.arr c []])
          | false => ownBox r ρ S
        | none => ownBox r ρ S
      | _ => ownBox r ρ S
    | _ => ownBox r ρ S
def unk : SV Θ -> SV Θ
  | .kb b => .b b
  | x => x
def unkEnv : List Nat -> SEnv Θ -> SEnv Θ
  | [], ρ => ρ
  | t :: ts, ρ => match ρ.get t with
    | .kb b => unkEnv ts ((t, .b b) :: ρ)
    | _ => unkEnv ts ρ
def unkL : List (SV Θ) -> List (SV Θ)
  | [] => []
  | x :: xs => unk x :: unkL xs
def unkHeap : SHeap Θ -> SHeap Θ
  | [] => []
  | .box cs :: r => .box (unkL cs) :: unkHeap r
  | x :: r => x :: unkHeap r
def wholeV (S : SHeap Θ) : SV Θ -> Cm (SV Θ)
  | .sl c o off len cap => match off with
    | 0 => match sNth S o with
      | some (.arr c' xs) => match Nat.beq c c' with
        | true => .chk (len = xs.length) (.ret (.sl c o 0 xs.length none))
        | false => .no
      | _ => .no
    | _ + 1 => .no
  | .bl c o len => match sNth S o with
    | some (.arr c' xs) => match Nat.beq c c' with
      | true => .chk (len = xs.length) (.ret (.bl c o xs.length))
      | false => .no
    | _ => .no
  | x => .ret x
def wholeEnv (S : SHeap Θ) : List Nat -> SEnv Θ -> Cm (SEnv Θ)
  | [], ρ => .ret ρ
  | t :: ts, ρ => (wholeV S (ρ.get t)).bind fun v => wholeEnv S ts ((t, v) :: ρ)
def wholeBox (ρ : SEnv Θ) : List (Nat × Nat) -> SHeap Θ -> Cm (SHeap Θ)
  | [], S => .ret S
  | (t, off') :: r, S => match boxAt (ρ.get t) off' with
    | some (o, off) => match sNth S o with
      | some (.box cs) => match sNth cs off with
        | some x => (wholeV S x).bind fun v => wholeBox ρ r (S.set o (.box (cs.set off v)))
        | none => .no
      | _ => .no
    | _ => .no
def canonA (h : Hint) (fs : List (Fr Θ)) (ρ : SEnv Θ) (S : SHeap Θ) : Cm (List (Fr Θ) × SEnv Θ × SHeap Θ) :=
  let π0 := visit S 300 (rootRefs S (upTo h.nr) ++ (refsEnv ρ h.live ++ refsFs h.cals fs)) (upTo h.nr)
  let π := π0 ++ tagsIn π0 0 S
  match nodupB π with
  | true => match renHeap S π π with
    | some S₂ => .ret (keepFs π h.cals fs, keepEnv π ρ h.live, S₂)
    | none => .no
  | false => .no
def canon0 (h : Hint) (fs : List (Fr Θ)) (ρ : SEnv Θ) (S : SHeap Θ) : Cm (List (Fr Θ) × SEnv Θ × SHeap Θ) :=
  let r := ownEnv h.own (unkEnv h.kbs ρ) (unkHeap S)
  let S' := ownBox h.ownB r.1 r.2
  (wholeEnv S' h.whole r.1).bind fun ρ' => (wholeBox ρ' h.wholeB S').bind fun S₂ => canonA h fs ρ' S₂
def lstRows : List (Nat × Nat) -> SEnv Θ -> List Nat
  | [], _ => []
  | (t, _) :: r, ρ => match ρ.get t with
    | .sl _ o _ _ _ => o :: lstRows r ρ
    | _ => lstRows r ρ
def nilEnv : List (Nat × Nat) -> SEnv Θ -> SEnv Θ
  | [], ρ => ρ
  | (t, c) :: r, ρ => match isNil (ρ.get t) with
    | true => nilEnv r ((t, .lst c []) :: ρ)
    | false => nilEnv r ρ
def isLp : List (Fr Θ) -> Bool
  | .lp _ _ :: _ => true
  | _ => false
def canonF (h : Hint) (fs : List (Fr Θ)) (ρ : SEnv Θ) (S : SHeap Θ) : Cm (List (Fr Θ) × SEnv Θ × SHeap Θ) :=
  match h.lsts with
  | [] => canon0 h fs ρ S
  | p :: ps => match isLp fs with
    | true => (freezeL (lstRows (p :: ps) ρ) ρ S).bind fun r => canon0 h fs (nilEnv (p :: ps) r.1) r.2
    | false => .no
def canon (h : Hint) (fs : List (Fr Θ)) (ρ : SEnv Θ) (S : SHeap Θ) : Cm (List (Fr Θ) × SEnv Θ × SHeap Θ) :=
  match tails ρ h.whole with
  | [] => canonF h fs ρ S
  | p :: ps => match isLp fs with
    | true => (rebaseL (p :: ps) ρ S).bind fun r => canonF h fs r.1 r.2
    | false => canonF h fs ρ S
section
variable {C : Cod Θ} {ι : Emb} {A : Base} {S : SHeap Θ} {H : Heap} {P : Program} {rs0 : List ARes} {Qf : AV -> Heap -> Prop}
theorem idxOf_get : ∀ {π : List Nat} {o i j : Nat}, idxOf π o i = some j -> i <= j ∧ π[j - i]? = some o := by
  intro π
  induction π with
  | nil => intro o i j h; simp [idxOf] at h
  | cons x xs ih =>
    intro o i j h
    simp only [idxOf] at h
    split at h
    · rename_i hx; have := nbeq_true hx; subst this; cases h; simp
    · obtain ⟨h1, h2⟩ := ih h
      refine ⟨by omega, ?_⟩
      rw [show j - i = (j - (i + 1)) + 1 by omega]
      simpa using h2
theorem idxOf_none : ∀ {π : List Nat} {o i : Nat}, idxOf π o i = none -> o ∉ π := by
  intro π
  induction π with
  | nil => intro o i h; simp
  | cons x xs ih =>
    intro o i h
    simp only [idxOf] at h
    split at h
    · cases h
    · rename_i hx
      have := nbeq_false hx
      simp [ih h, Ne.symm this]
theorem nodup_of : ∀ {π : List Nat}, nodupB π = true -> π.Nodup := by
  intro π
  induction π with
  | nil => intro _; exact List.nodup_nil
  | cons x xs ih =>
    intro h
    simp only [nodupB] at h
    split at h
    · cases h
    · rename_i hx; exact List.nodup_cons.2 ⟨idxOf_none hx, ih h⟩
def Emb.ren (ι : Emb) (π : List Nat) : Emb := π.map fun o => (ι[o]?).getD none
theorem ren_get {π : List Nat} {o j : Nat} {x : Option Nat} (h : idxOf π o 0 = some j) (ho : ι[o]? = some x) : (ι.ren π)[j]? = some x := by
  obtain ⟨_, h2⟩ := idxOf_get h
  unfold Emb.ren
  rw [List.getElem?_map]
  simp only [Nat.sub_zero] at h2
  rw [h2]
  simp [ho]
theorem renL_map (π : List Nat) (l : List (SV Θ)) : SV.ren.renL π l = l.map (SV.ren π) := by
  induction l with
  | nil => rfl
  | cons x l ih => simp [SV.ren.renL, ih]
theorem RV.ren {x : SV Θ} {a : AV} (h : RV C ι x a) (π : List Nat) : RV C (ι.ren π) (x.ren π) a := by
  have list : ∀ {cs : List (SV Θ)} {as : List AV}, cs.length = as.length -> (∀ (i : Nat) (x : SV Θ) (a : AV), cs[i]? = some x -> as[i]? = some a -> RV C (ι.ren π) (x.ren π) a) -> RVs C (ι.ren π) (SV.ren.renL π cs) as := by
    intro cs as hl hh
    refine ⟨by simp [renL_map, hl], fun i y a hy ha => ?_⟩
    rw [renL_map, List.getElem?_map, Option.map_eq_some_iff] at hy
    obtain ⟨x, hx, rfl⟩ := hy
    exact hh i x a hx ha
  induction h with
  | agg hl _ ih => exact .agg (list hl ih).1 (list hl ih).2
  | tup hl _ ih => exact .tup (list hl ih).1 (list hl ih).2
  | fn hl _ ih => exact .fn (list hl ih).1 (list hl ih).2
  | ifc _ ih => exact .ifc ih
  | sl ho hk hc =>
    simp only [SV.ren]
    split
    · rename_i h1; exact .sl (ren_get h1 ho) hk hc
    · exact .any _
  | slNil ho hc ha =>
    simp only [SV.ren]
    split
    · rename_i h1; exact .slNil (ren_get h1 ho) hc ha
    · exact .any _
  | ptr ho =>
    simp only [SV.ren]
    split
    · rename_i h1; exact .ptr (ren_get h1 ho)
    · exact .any _
  | eptr ho =>
    simp only [SV.ren]
    split
    · rename_i h1; exact .eptr (ren_get h1 ho)
    · exact .any _
  | mp ho =>
    simp only [SV.ren]
    split
    · rename_i h1; exact .mp (ren_get h1 ho)
    · exact .any _
  | rp _ ih => exact .rp ih
  | self0 =>
    simp only [SV.ren]
    split
    · exact .self0
    · exact .any _
  | self1 ho =>
    simp only [SV.ren]
    split
    · rename_i h1; exact .self1 (ren_get h1 ho)
    · exact .any _
  | sd0 ho =>
    simp only [SV.ren]
    split
    · rename_i h1; exact .sd0 (ren_get h1 ho)
    · exact .any _
  | sd1 ho =>
    simp only [SV.ren]
    split
    · rename_i h1; exact .sd1 (ren_get h1 ho)
    · exact .any _
  | bl0 ho =>
    simp only [SV.ren]
    split
    · rename_i h1; exact .bl0 (ren_get h1 ho)
    · exact .any _
  | bl1 ho hk =>
    simp only [SV.ren]
    split
    · rename_i h1; exact .bl1 (ren_get h1 ho) hk
    · exact .any _
  | any a => exact .any _
  | i k x => exact .i _ _
  | b x => exact .b _
  | kb x => exact .kb _
  | s l => exact .s _
  | v x => exact .v _
  | lst c xs => exact .lst _ _
  | z0 => exact .z0
theorem renHeap_get {π0 : List Nat} : ∀ {π : List Nat} {S S' : SHeap Θ}, renHeap S π0 π = some S' -> S'.length = π.length ∧ ∀ (j : Nat) (x : SO Θ), S'[j]? = some x -> ∃ o y, π[j]? = some o ∧ S[o]? = some y ∧ x = y.ren π0 := by
  intro π
  induction π with
  | nil => intro S S' h; simp [renHeap] at h; subst h; exact ⟨rfl, fun j x h => by simp at h⟩
  | cons o os ih =>
    intro S S' h
    simp only [renHeap] at h
    split at h
    · rename_i y hy
      split at h
      · rename_i r hr
        cases h
        obtain ⟨h1, h2⟩ := ih hr
        refine ⟨by simp [h1], fun j x hx => ?_⟩
        cases j with
        | zero => simp at hx; exact ⟨o, y, rfl, by rw [<- nth_get]; exact hy, hx.symm⟩
        | succ j => obtain ⟨o', y', k1, k2, k3⟩ := h2 j x (by simpa using hx); exact ⟨o', y', by simpa using k1, k2, k3⟩
      · cases h
    · cases h
theorem RObj.ren {x : SO Θ} {y : AObj} (h : RObj C ι x y) (π : List Nat) : x.ren π = .dead ∨ RObj C (ι.ren π) (x.ren π) y := by
  cases h with
  | @box cs as hb =>
    right
    have := (RV.agg (C := C) hb.1 hb.2).ren π
    simp only [SV.ren] at this
    generalize hcs : SV.ren.renL π cs = ds at this
    simp only [SO.ren, hcs]
    cases this with
    | agg h1 h2 => exact .box ⟨h1, h2⟩
  | arr c xs ext => exact .inr (.arr c xs ext)
  | map c d es => exact .inr (.map c d es)
  | hole hj hi hl ext => exact .inl rfl
  | raw hx ext h => exact .inl rfl
theorem upTo_len : ∀ n, (upTo n).length = n := by
  intro n
  induction n with
  | zero => rfl
  | succ n ih => simp [upTo, ih]
theorem upTo_get : ∀ {n i : Nat}, i < n -> (upTo n)[i]? = some i := by
  intro n
  induction n with
  | zero => intro i h; omega
  | succ n ih =>
    intro i h
    simp only [upTo]
    rcases Nat.lt_or_ge i n with h' | h'
    · rw [List.getElem?_append_left (by rw [upTo_len]; exact h')]; exact ih h'
    · have : i = n := by omega
      subst this
      rw [List.getElem?_append_right (by rw [upTo_len]; exact Nat.le_refl _), upTo_len]; simp
theorem visit_pre {S : SHeap Θ} : ∀ (n : Nat) (todo seen : List Nat), ∃ l, visit S n todo seen = seen ++ l := by
  intro n
  induction n with
  | zero => intro todo seen; exact ⟨[], by simp [visit]⟩
  | succ n ih =>
    intro todo seen
    cases todo with
    | nil => exact ⟨[], by simp [visit]⟩
    | cons o os =>
      simp only [visit]
      split
      · exact ih _ _
      · split
        · obtain ⟨l, h⟩ := ih (refsOf.refsL _ ++ os) (seen ++ [o]); exact ⟨[o] ++ l, by rw [h, List.append_assoc]⟩
        · obtain ⟨l, h⟩ := ih os (seen ++ [o]); exact ⟨[o] ++ l, by rw [h, List.append_assoc]⟩
        · obtain ⟨l, h⟩ := ih os (seen ++ [o]); exact ⟨[o] ++ l, by rw [h, List.append_assoc]⟩
        · exact ih _ _
theorem RH.ren (r : RH C A ι S H) {π : List Nat} (hpi : ∀ i, i < A.roots.length -> π[i]? = some i) (hn : π.Nodup) {S' : SHeap Θ} (h : renHeap S π π = some S') : RH C A (ι.ren π) S' H := by
  obtain ⟨hl, hg⟩ := renHeap_get h
  have back : ∀ {j : Nat} {x : Option Nat}, (ι.ren π)[j]? = some x -> ∃ o, π[j]? = some o ∧ x = (ι[o]?).getD none := by
    intro j x hx
    unfold Emb.ren at hx
    rw [List.getElem?_map, Option.map_eq_some_iff] at hx
    obtain ⟨o, h1, h2⟩ := hx
    exact ⟨o, h1, h2.symm⟩
  have backS : ∀ {j p : Nat}, (ι.ren π)[j]? = some (some p) -> ∃ o, π[j]? = some o ∧ ι[o]? = some (some p) := by
    intro j p hx
    obtain ⟨o, h1, h2⟩ := back hx
    refine ⟨o, h1, ?_⟩
    cases h3 : ι[o]? with
    | none => rw [h3] at h2; cases h2
    | some y => rw [h3] at h2; simp at h2; rw [h2]
  refine ⟨by simp [Emb.ren, hl], fun j p hj => ?_, fun j j' p h1 h2 => ?_, fun j p x h1 h2 => ?_, fun j x h1 h2 => ?_, fun j q t hj => ?_, fun j p h1 => ?_, r.big, r.base, fun i x hi => by
    have h1 := hpi i (getElem?_lt hi)
    unfold Emb.ren
    rw [List.getElem?_map, h1, Option.map_some, r.rts i x hi]; rfl⟩
  · obtain ⟨o, _, ho⟩ := backS hj; exact r.lt o p ho
  · obtain ⟨o, k1, k2⟩ := backS h1
    obtain ⟨o', k3, k4⟩ := backS h2
    rcases r.inj o o' p k2 k4 with h | h | h
    · subst h
      left
      have hj := getElem?_lt k1
      have hj' := getElem?_lt k3
      rw [List.getElem?_eq_getElem hj] at k1
      rw [List.getElem?_eq_getElem hj'] at k3
      have e : π[j] = π[j'] := (Option.some.inj k1).trans (Option.some.inj k3).symm
      have hp := List.pairwise_iff_getElem.1 hn
      rcases Nat.lt_trichotomy j j' with h5 | h5 | h5
      · exact absurd e (hp j j' hj hj' h5)
      · exact h5
      · exact absurd e.symm (hp j' j hj' hj h5)
    · right; left
      have hj : j < S'.length := by rw [hl]; exact getElem?_lt k1
      obtain ⟨o2, y, q1, q2, q3⟩ := hg j S'[j] (by simp [hj])
      rw [k1] at q1; cases q1
      rw [h] at q2; cases q2
      rw [show S'[j]? = some S'[j] by simp [hj], q3]; rfl
    · right; right
      have hj : j' < S'.length := by rw [hl]; exact getElem?_lt k3
      obtain ⟨o2, y, q1, q2, q3⟩ := hg j' S'[j'] (by simp [hj])
      rw [k3] at q1; cases q1
      rw [h] at q2; cases q2
      rw [show S'[j']? = some S'[j'] by simp [hj], q3]; rfl
  · obtain ⟨o, k1, k2⟩ := backS h1
    obtain ⟨o2, y, q1, q2, q3⟩ := hg j x h2
    rw [k1] at q1; cases q1
    subst q3
    rcases r.obj o p y k2 q2 with h | ⟨z, h3, h4⟩
    · subst h; exact .inl rfl
    · rcases h4.ren π with h5 | h5
      · exact .inl h5
      · exact .inr ⟨z, h3, h5⟩
  · obtain ⟨o, k1, k2⟩ := back h1
    obtain ⟨o2, y, q1, q2, q3⟩ := hg j x h2
    rw [k1] at q1; cases q1
    subst q3
    have hol : o < ι.length := by rw [r.len]; exact getElem?_lt q2
    have : ι[o]? = some none := by
      rw [List.getElem?_eq_getElem hol] at k2 ⊢
      simp at k2; rw [<- k2]
    rcases r.nil o y this q2 with h | ⟨c, h⟩ | ⟨q, t, h⟩
    · subst h; exact .inl rfl
    · subst h; exact .inr (.inl ⟨c, rfl⟩)
    · subst h
      simp only [SO.ren]
      split
      · exact .inr (.inr ⟨_, _, rfl⟩)
      · exact .inl rfl
  · obtain ⟨o2, y, q1, q2, q3⟩ := hg j _ hj
    cases y with
    | tag o t' =>
      simp only [SO.ren] at q3
      split at q3
      · rename_i i hi
        cases q3
        obtain ⟨_, hi2⟩ := idxOf_get hi
        simp only [Nat.sub_zero] at hi2
        obtain ⟨k0, k⟩ := r.tg o2 o _ q2
        refine ⟨by rw [hl]; exact getElem?_lt hi2, fun p hp => ?_⟩
        obtain ⟨o', k1, k2⟩ := backS hp
        rw [hi2] at k1; cases k1
        obtain ⟨k3, k4⟩ := k p k2
        refine ⟨k3, fun c xs hx => ?_⟩
        obtain ⟨o3, y3, s1, s2, s3⟩ := hg _ _ hx
        rw [hi2] at s1; cases s1
        have : y3 = .arr c xs := by
          cases y3 <;> simp only [SO.ren] at s3 <;> first | exact s3.symm | cases s3 | (split at s3 <;> cases s3)
        subst this
        exact k4 c xs s2
      · cases q3
    | _ => simp only [SO.ren] at q3; cases q3
  · obtain ⟨o, _, ho⟩ := backS h1; exact r.own o p ho
theorem keepEnv_get {ρ : SEnv Θ} {π : List Nat} : ∀ {l : List Nat} (t : Nat), (keepEnv π ρ l).get t = .any ∨ (keepEnv π ρ l).get t = (ρ.get t).ren π := by
  intro l
  induction l with
  | nil => intro t; exact .inl rfl
  | cons x l ih =>
    intro t
    simp only [keepEnv, SEnv.get]
    split
    · rename_i h; have := nbeq_true h; subst this; exact .inr rfl
    · exact ih t
theorem RE.keep {ρ : SEnv Θ} {e : Env} (he : RE C ι ρ e) (π l : List Nat) : RE C (ι.ren π) (keepEnv π ρ l) e := by
  intro t
  rcases keepEnv_get (ρ := ρ) (π := π) (l := l) t with h | h
  · rw [h]; exact .any _
  · rw [h]; exact (he t).ren π
theorem RE.nil {e : Env} : RE C ι ([] : SEnv Θ) e := fun t => .any _
theorem FR.keep (π : List Nat) {fs : List (Fr Θ)} {Q : AExit -> St -> Prop} (h : FR P C rs0 Qf ι fs Q) : ∀ ls, FR P C rs0 Qf (ι.ren π) (keepFs π ls fs) Q := by
  induction h with
  | nil => intro ls; cases ls <;> exact .nil
  | seq _ ih => intro ls; cases ls <;> exact .seq (ih _)
  | blk _ ih => intro ls; cases ls <;> exact .blk (ih _)
  | lp _ ih => intro ls; cases ls <;> exact .lp (ih _)
  | ops _ ih => intro ls; cases ls <;> exact .ops (ih _)
  | cal _ he ih => intro ls; cases ls with
    | nil => exact .cal (ih _) .nil
    | cons l ls => exact .cal (ih _) (he.keep π l)
theorem isNil_rv {x : SV Θ} {a : AV} (h : RV C ι x a) (hx : isNil x = true) : a = nilSl ∨ a = .z0 := by
  unfold isNil at hx
  split at hx
  · cases h; exact .inl rfl
  · cases h; exact .inr rfl
  · cases hx
theorem ownEnv_sound : ∀ {l : List (Nat × Nat)} {ρ : SEnv Θ} {S : SHeap Θ} {ι : Emb} {e : Env}, RE C ι ρ e -> RH C A ι S H -> ∃ L, RE C (ι ++ L) (ownEnv l ρ S).1 e ∧ RH C A (ι ++ L) (ownEnv l ρ S).2 H := by
  intro l
  induction l with
  | nil => intro ρ S ι e he r; exact ⟨[], by rw [List.append_nil]; exact he, by rw [List.append_nil]; exact r⟩
  | cons p l ih =>
    intro ρ S ι e he r
    obtain ⟨t, c⟩ := p
    simp only [ownEnv]
    split
    · rename_i hn
      have ha := isNil_rv (he t) hn
      have h1 : RE C (ι ++ [none]) ((t, .sl c S.length 0 0 none) :: ρ) e := (he.mono [none]).known (.slNil (by rw [<- r.len]; simp) (.inl rfl) ha)
      obtain ⟨L, h2, h3⟩ := ih h1 (r.pushNil c)
      exact ⟨[none] ++ L, by rw [<- List.append_assoc]; exact h2, by rw [<- List.append_assoc]; exact h3⟩
    · exact ih he r
theorem RH.redo (r : RH C A ι S H) {o : Nat} {x0 x : SO Θ} (h0 : S[o]? = some x0) (hd : ∃ cs, x0 = .box cs) (hxb : ∃ cs, x = .box cs) (hx : ∀ y, RObj C ι x0 y -> RObj C ι x y) : RH C A ι (S.set o x) H := by
  obtain ⟨cs, rfl⟩ := hd
  have holt := getElem?_lt h0
  obtain ⟨q, hq⟩ : ∃ q, ι[o]? = some q := ⟨ι[o]'(by rw [r.len]; exact holt), by simp [r.len, holt]⟩
  cases q with
  | none =>
    rcases r.nil o _ hq h0 with h | ⟨c, h⟩ | ⟨_, _, h⟩ <;> cases h
  | some p =>
    rcases r.obj o p _ hq h0 with h | ⟨y, hy, hr⟩
    · cases h
    · have := r.set hq (x := x) (y := y) h0 (by simp) (hx y hr) (by obtain ⟨cs', rfl⟩ := hxb; exact .box)
      have hset : H.set p y = H := by
        apply List.ext_getElem?
        intro i
        by_cases e : p = i
        · subst e; rw [List.getElem?_set_self (getElem?_lt hy), hy]
        · rw [List.getElem?_set_ne e]
      rw [hset] at this
      exact this
theorem ownBox_sound : ∀ {l : List (Nat × Nat × Nat)} {ρ : SEnv Θ} {S : SHeap Θ} {ι : Emb}, RH C A ι S H -> ∃ L, RH C A (ι ++ L) (ownBox l ρ S) H := by
  intro l
  induction l with
  | nil => intro ρ S ι r; exact ⟨[], by rw [List.append_nil]; exact r⟩
  | cons p l ih =>
    intro ρ S ι r
    obtain ⟨t, off', c⟩ := p
    simp only [ownBox]
    split
    · rename_i o off _
      split
      · rename_i cs hcs
        split
        · rename_i x hx
          split
          · rename_i hn
            rw [nth_get] at hcs hx
            have holt := getElem?_lt hcs
            have r1 := r.pushNil c
            have r2 := r1.redo (x := .box (cs.set off (.sl c S.length 0 0 none))) (o := o) (x0 := .box cs) (by rw [List.getElem?_append_left holt]; exact hcs) ⟨cs, rfl⟩ ⟨_, rfl⟩ (fun y hy => by
              cases hy with
              | box hb =>
                obtain ⟨a, h1, h2⟩ := hb.get hx
                have h3 := isNil_rv h2 hn
                have h4 := hb.set off (RV.slNil (C := C) (ι := ι ++ [none]) (c := c) (o := S.length) (cap := none) (by rw [<- r.len]; simp) (.inl rfl) h3)
                have h5 : ∀ (as : List AV), as[off]? = some a -> as.set off a = as := by
                  intro as ha
                  apply List.ext_getElem?
                  intro i
                  by_cases e : off = i
                  · subst e; rw [List.getElem?_set_self (getElem?_lt ha), ha]
                  · rw [List.getElem?_set_ne e]
                rw [h5 _ h1] at h4
                exact .box h4)
            rw [List.set_append_left _ _ holt] at r2
            obtain ⟨L, h⟩ := ih (ρ := ρ) r2
            exact ⟨[none] ++ L, by rw [<- List.append_assoc]; exact h⟩
          · exact ih r
        · exact ih r
      · exact ih r
    · exact ih r
theorem unk_rv {x : SV Θ} {a : AV} (h : RV C ι x a) : RV C ι (unk x) a := by
  unfold unk
  split
  · cases h; exact .b _
  · exact h
theorem unkEnv_sound : ∀ {l : List Nat} {ρ : SEnv Θ} {e : Env}, RE C ι ρ e -> RE C ι (unkEnv l ρ) e := by
  intro l
  induction l with
  | nil => intro ρ e h; exact h
  | cons t l ih =>
    intro ρ e h
    simp only [unkEnv]
    split
    · rename_i b hb
      refine ih (h.known ?_)
      have := unk_rv (h t)
      rw [hb] at this
      exact this
    · exact ih h
theorem unkL_map (l : List (SV Θ)) : unkL l = l.map unk := by
  induction l with
  | nil => rfl
  | cons x l ih => simp [unkL, ih]
theorem unkHeap_get : ∀ {S : SHeap Θ} (i : Nat), (unkHeap S)[i]? = (S[i]?).map fun | .box cs => .box (cs.map unk) | x => x := by
  intro S
  induction S with
  | nil => intro i; simp [unkHeap]
  | cons x S ih => intro i; cases i with
    | zero => cases x <;> simp [unkHeap, unkL_map]
    | succ i => cases x <;> simpa [unkHeap] using ih i
theorem unkHeap_sound (r : RH C A ι S H) : RH C A ι (unkHeap S) H := by
  have hl : (unkHeap S).length = S.length := by
    clear r
    induction S with
    | nil => rfl
    | cons x S ih => cases x <;> simp [unkHeap, ih]
  have dead : ∀ {o : Nat}, S[o]? = some SO.dead -> (unkHeap S)[o]? = some SO.dead := fun h => by rw [unkHeap_get, h]; rfl
  refine ⟨by rw [hl]; exact r.len, r.lt, fun o o' p h1 h2 => ?_, fun o p x h1 h2 => ?_, fun o x h1 h2 => ?_, fun j q t hj => ?_, r.own, r.big, r.base, r.rts⟩
  · rcases r.inj o o' p h1 h2 with h | h | h
    · exact .inl h
    · exact .inr (.inl (dead h))
    · exact .inr (.inr (dead h))
  · rw [unkHeap_get, Option.map_eq_some_iff] at h2
    obtain ⟨y, hy, rfl⟩ := h2
    rcases r.obj o p y h1 hy with h | ⟨z, h3, h4⟩
    · subst h; exact .inl rfl
    · right
      refine ⟨z, h3, ?_⟩
      cases h4 with
      | @box cs as hb =>
        refine .box ⟨by simp [hb.1], fun i x a hx ha => ?_⟩
        rw [List.getElem?_map, Option.map_eq_some_iff] at hx
        obtain ⟨x', hx', rfl⟩ := hx
        exact unk_rv (hb.2 i x' a hx' ha)
      | arr c xs ext => exact .arr c xs ext
      | map c d es => exact .map c d es
      | hole hj hi hl ext => exact .hole hj hi hl ext
      | raw hx ext h => exact .raw hx ext h
  · rw [unkHeap_get, Option.map_eq_some_iff] at h2
    obtain ⟨y, hy, rfl⟩ := h2
    rcases r.nil o y h1 hy with h | ⟨c, h⟩ | ⟨q, t, h⟩
    · subst h; exact .inl rfl
    · subst h; exact .inr (.inl ⟨c, rfl⟩)
    · subst h; exact .inr (.inr ⟨q, t, rfl⟩)
  · rw [unkHeap_get, Option.map_eq_some_iff] at hj
    obtain ⟨y, hy, he⟩ := hj
    have hy2 : y = .tag q t := by cases y <;> first | exact he | cases he
    subst hy2
    obtain ⟨k0, k⟩ := r.tg j q t hy
    refine ⟨by rw [hl]; exact k0, fun p hp => ⟨(k p hp).1, fun c xs hx => ?_⟩⟩
    rw [unkHeap_get, Option.map_eq_some_iff] at hx
    obtain ⟨z, hz, he⟩ := hx
    have hz2 : z = .arr c xs := by cases z <;> first | exact he | cases he
    subst hz2
    exact (k p hp).2 c xs hz
theorem wholeV_sound {x : SV Θ} {a : AV} (hx : RV C ι x a) {K : SV Θ -> Prop} (h : (wholeV S x).den K) : ∃ v, RV C ι v a ∧ K v := by
  unfold wholeV at h
  split at h
  · split at h
    · split at h
      · rename_i c' xs hcs
        split at h
        · rename_i hc
          have := nbeq_true hc
          subst this
          obtain ⟨h1, h2⟩ := h
          have h2 : K (.sl _ _ 0 xs.length none) := h2
          rw [<- h1] at h2
          refine ⟨_, ?_, h2⟩
          cases hx with
          | sl ho hk hc => exact .sl ho hk (.inr rfl)
          | slNil ho hc ha => exact .slNil ho (.inl rfl) ha
        · exact h.elim
      · exact h.elim
    · exact h.elim
  · split at h
    · rename_i c' xs hcs
      split at h
      · obtain ⟨h1, h2⟩ := h
        have h2 : K (.bl _ _ xs.length) := h2
        rw [<- h1] at h2
        exact ⟨_, hx, h2⟩
      · exact h.elim
    · exact h.elim
  · exact ⟨_, hx, h⟩
theorem wholeEnv_sound : ∀ {l : List Nat} {ρ : SEnv Θ} {e : Env}, RE C ι ρ e -> ∀ {K : SEnv Θ -> Prop}, (wholeEnv S l ρ).den K -> ∃ ρ', RE C ι ρ' e ∧ K ρ' := by
  intro l
  induction l with
  | nil => intro ρ e he K h; exact ⟨ρ, he, h⟩
  | cons t l ih =>
    intro ρ e he K h
    obtain ⟨v, h1, h2⟩ := wholeV_sound (he t) (Cm.den_bind h)
    exact ih (he.known h1) h2
theorem wholeBox_sound {ρ : SEnv Θ} : ∀ {l : List (Nat × Nat)} {S : SHeap Θ}, RH C A ι S H -> ∀ {K : SHeap Θ -> Prop}, (wholeBox ρ l S).den K -> ∃ S', RH C A ι S' H ∧ K S' := by
  intro l
  induction l with
  | nil => intro S r K h; exact ⟨S, r, h⟩
  | cons p l ih =>
    intro S r K h
    obtain ⟨t, off'⟩ := p
    simp only [wholeBox] at h
    split at h
    · rename_i o off _
      split at h
      · rename_i cs hcs
        split at h
        · rename_i x hx
          have h := Cm.den_bind h
          rw [nth_get] at hcs hx
          have key : ∃ v, (wholeBox ρ l (S.set o (.box (cs.set off v)))).den K ∧ ∀ a, RV C ι x a -> RV C ι v a := by
            unfold wholeV at h
            split at h
            · split at h
              · split at h
                · rename_i c' xs hcs'
                  split at h
                  · rename_i hc
                    have := nbeq_true hc
                    subst this
                    obtain ⟨h1, h2⟩ := h
                    refine ⟨_, h2, fun a ha => ?_⟩
                    rw [<- h1]
                    cases ha with
                    | sl ho hk hc => exact .sl ho hk (.inr rfl)
                    | slNil ho hc ha => exact .slNil ho (.inl rfl) ha
                  · exact h.elim
                · exact h.elim
              · exact h.elim
            · split at h
              · rename_i c' xs hcs'
                split at h
                · obtain ⟨h1, h2⟩ := h
                  refine ⟨_, h2, fun a ha => ?_⟩
                  rw [<- h1]
                  exact ha
                · exact h.elim
              · exact h.elim
            · exact ⟨_, h, fun a ha => ha⟩
          obtain ⟨v, h1, h2⟩ := key
          refine ih (r.redo hcs ⟨cs, rfl⟩ ⟨_, rfl⟩ fun y hy => ?_) h1
          cases hy with
          | box hb =>
            obtain ⟨a, h3, h4⟩ := hb.get hx
            have h5 := hb.set off (h2 a h4)
            have h6 : ∀ (as : List AV), as[off]? = some a -> as.set off a = as := by
              intro as ha
              apply List.ext_getElem?
              intro i
              by_cases e : off = i
              · subst e; rw [List.getElem?_set_self (getElem?_lt ha), ha]
              · rw [List.getElem?_set_ne e]
            rw [h6 _ h3] at h5
            exact .box h5
        · exact h.elim
      · exact h.elim
    · exact h.elim
theorem canon0_sound {h : Hint} {fs : List (Fr Θ)} {ρ : SEnv Θ} {S : SHeap Θ} (hA : A.roots.length <= h.nr) (hc : (canon0 h fs ρ S).den fun r => CW P C A rs0 Qf r.1 r.2.1 r.2.2) : CW P C A rs0 Qf fs ρ S := by
  intro ι s Q hf he r
  unfold canon0 at hc
  simp only at hc
  obtain ⟨L, he1, r1⟩ := ownEnv_sound (l := h.own) (unkEnv_sound (l := h.kbs) he) (unkHeap_sound r)
  obtain ⟨L', r2⟩ := ownBox_sound (l := h.ownB) (ρ := (ownEnv h.own (unkEnv h.kbs ρ) (unkHeap S)).1) r1
  have hf' := (hf.mono L).mono L'
  have he' := he1.mono L'
  obtain ⟨ρ', he2, hc⟩ := wholeEnv_sound he' (Cm.den_bind hc)
  obtain ⟨S₂, r3, hc⟩ := wholeBox_sound r2 (Cm.den_bind hc)
  unfold canonA at hc
  simp only at hc
  split at hc
  · rename_i hn
    split at hc
    · rename_i S₃ hS₃
      refine hc _ s Q (hf'.keep _ _) (he2.keep _ _) (r3.ren (fun i hi => ?_) (nodup_of hn) hS₃)
      obtain ⟨l, hl⟩ := visit_pre (S := S₂) 300 (rootRefs S₂ (upTo h.nr) ++ (refsEnv ρ' h.live ++ refsFs h.cals fs)) (upTo h.nr)
      rw [hl, List.append_assoc, List.getElem?_append_left (by rw [upTo_len]; omega)]
      exact upTo_get (by omega)
    · exact hc.elim
  · exact hc.elim
theorem nil_norm {N : Nat} {ρ : SEnv Θ} {e : Env} {H : Heap} (he : RE C ι ρ e) {t c : Nat} (hn : isNil (ρ.get t) = true) :
    NormS N ⟨e, H⟩ ⟨upd e t (.lst (C.sz c) []), H⟩ ∧ RE C ι ((t, .lst c []) :: ρ) (upd e t (.lst (C.sz c) [])) := by
  have ha := isNil_rv (he t) hn
  refine ⟨fun B β a w hr => ⟨β, ⟨hr.sim, fun k => ?_, hr.defers, hr.size⟩, Tr.refl _ _ _ _⟩, ?_⟩
  · show RepH β H w (upd e t (.lst (C.sz c) []) k) _
    by_cases hk : k = t
    · subst hk
      rw [upd_same]
      have hrep := hr.rep k
      simp only at hrep
      generalize a.tmps.getD k undef = v at hrep ⊢
      rcases ha with ha | ha <;> rw [ha] at hrep <;> cases hrep <;> exact .lstNil _ _ _
    · rw [upd_ne _ _ hk]; exact hr.rep k
  · have h1 : RV C ι (.lst c []) (.lst (C.sz c) []) := .lst c []
    exact he.cons h1
theorem nilEnv_sound {N : Nat} {H : Heap} : ∀ {l : List (Nat × Nat)} {ρ : SEnv Θ} {e : Env}, RE C ι ρ e -> ∃ e', NormS N ⟨e, H⟩ ⟨e', H⟩ ∧ RE C ι (nilEnv l ρ) e' := by
  intro l
  induction l with
  | nil => intro ρ e he; exact ⟨e, .refl _ _, he⟩
  | cons p l ih =>
    intro ρ e he
    obtain ⟨t, c⟩ := p
    simp only [nilEnv]
    split
    · rename_i hn
      obtain ⟨h1, h2⟩ := nil_norm (N := N) (H := H) (c := c) he hn
      obtain ⟨e', h3, h4⟩ := ih h2
      exact ⟨e', h1.trans h3, h4⟩
    · exact ih he
theorem canonF_sound (ok : CodOk C) {h : Hint} {fs : List (Fr Θ)} {ρ : SEnv Θ} {S : SHeap Θ} (hA : A.roots.length <= h.nr) (hc : (canonF h fs ρ S).den fun r => CW P C A rs0 Qf r.1 r.2.1 r.2.2) : CW P C A rs0 Qf fs ρ S := by
  unfold canonF at hc
  split at hc
  · exact canon0_sound hA hc
  · rename_i p ps _
    split at hc
    · rename_i hlp
      cases fs with
      | nil => simp [isLp] at hlp
      | cons fr fs =>
        cases fr <;> simp [isLp] at hlp
        rename_i N a
        intro ι s Q hf he r
        obtain ⟨ρ1, S1, e1, H1, h1, r1, he1, _, hc⟩ := freezeL_sound ok (N := N) (e := s.env) (H := s.heap) r he (Cm.den_bind hc)
        obtain ⟨e2, h2, he2⟩ := nilEnv_sound (N := N) (H := H1) (l := p :: ps) he1
        have hq := canon0_sound hA hc ι ⟨e2, H1⟩ Q hf he2 r1
        cases hf with
        | lp hf => exact ALoop.norm (h1.trans h2) hq
    · exact hc.elim
theorem canon_sound (ok : CodOk C) {h : Hint} {fs : List (Fr Θ)} {ρ : SEnv Θ} {S : SHeap Θ} (hA : A.roots.length <= h.nr) (hc : (canon h fs ρ S).den fun r => CW P C A rs0 Qf r.1 r.2.1 r.2.2) : CW P C A rs0 Qf fs ρ S := by
  unfold canon at hc
  split at hc
  · exact canonF_sound ok hA hc
  · rename_i p ps _
    split at hc
    · rename_i hlp
      cases fs with
      | nil => simp [isLp] at hlp
      | cons fr fs =>
        cases fr <;> simp [isLp] at hlp
        rename_i N a
        intro ι s Q hf he r
        obtain ⟨ρ1, S1, e1, H1, L, h1, r1, he1, hc⟩ := rebaseL_sound ok (N := N) (e := s.env) (H := s.heap) r he (Cm.den_bind hc)
        have hq := canonF_sound ok hA hc (ι ++ L) ⟨e1, H1⟩ Q (hf.mono L) he1 r1
        cases hf with
        | lp hf => exact ALoop.norm h1 hq
    · exact canonF_sound ok hA hc
end
end Go.Ab
