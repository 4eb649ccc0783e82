/- A part of a law's proof: SvKnown. -/
import Derived.Test.YtjkcjbkkgkhljaaSvCod
set_option linter.constructorNameAsVariable false
/-
  Calls that are known: told by the kinds of their arguments.
-/
namespace Go.Ab
open Go Go.RowKit
set_option linter.unusedVariables false
set_option linter.unusedSimpArgs false
variable {Θ : Nat -> Type}
inductive ATy where
  | i (k : IntKind)
  | b
  | s
  | l (c : Nat)
  | t (c : Nat)
@[reducible] def ATy.T (Θ : Nat -> Type) : ATy -> Type
  | .i _ => Int
  | .b => Bool
  | .s => List UInt8
  | .l c => List (Θ c)
  | .t c => Θ c
@[reducible] def ATup (Θ : Nat -> Type) : List ATy -> Type
  | [] => Unit
  | a :: as => a.T Θ × ATup Θ as
def ATy.enc (G : CodG Θ) : (a : ATy) -> a.T Θ -> SV Θ
  | .i k, x => .i k x
  | .b, x => .b x
  | .s, x => .s x
  | .l c, x => .lst c x
  | .t c, x => .agg (cellsG (G.ty c) (G.to c x))
def encAs (G : CodG Θ) : (as : List ATy) -> ATup Θ as -> List (SV Θ)
  | [], _ => []
  | a :: as, x => a.enc G x.1 :: encAs G as x.2
def decL : (t : Ty) -> SV Θ -> Option (t.T Θ)
  | .i k, x => match x with
    | .i k' n => if k' = k then some n else none
    | _ => none
  | .b, x => match x with
    | .b t => some t
    | .kb t => some t
    | _ => none
  | .s, x => match x with
    | .s l => some l
    | _ => none
  | .l c, x => match x with
    | .lst c' xs => sCast c c' xs
    | .v (.slice none 0 0) => some []
    | .z0 => some []
    | _ => none
def decLs : (ts : List Ty) -> List (SV Θ) -> Option (Tup Θ ts)
  | [], l => match l with
    | [] => some ()
    | _ :: _ => none
  | t :: ts, l => match l with
    | [] => none
    | x :: xs => match decL t x with
      | some y => match decLs ts xs with
        | some ys => some (y, ys)
        | none => none
      | none => none
def ATy.dec (G : CodG Θ) : (a : ATy) -> SV Θ -> Option (a.T Θ)
  | .i k, x => decL (.i k) x
  | .b, x => decL .b x
  | .s, x => decL .s x
  | .l c, x => decL (.l c) x
  | .t c, x => match x with
    | .agg cs => match decLs (G.ty c) cs with
      | some y => some (G.fr c y)
      | none => none
    | _ => none
def decAs (G : CodG Θ) : (as : List ATy) -> List (SV Θ) -> Option (ATup Θ as)
  | [], l => match l with
    | [] => some ()
    | _ :: _ => none
  | a :: as, l => match l with
    | [] => none
    | x :: xs => match a.dec G x with
      | some y => match decAs G as xs with
        | some ys => some (y, ys)
        | none => none
      | none => none
def knP (G : CodG Θ) (as : List ATy) (f : ATup Θ as -> Cm (SV Θ)) (args : List (SV Θ)) : Cm (SV Θ) :=
  match decAs G as args with
  | some y => f y
  | none => .no
abbrev knG (G : CodG Θ) (as : List ATy) (f : ATup Θ as -> Cm (SV Θ)) : Kn Θ := .pure (knP G as f)
abbrev knS (G : CodG Θ) (as : List ATy) (f : ATup Θ as -> Cm (SV Θ)) : Kn Θ := .scal (knP G as f)
inductive AVle : AV -> AV -> Prop
  | same (a : AV) : AVle a a
  | nil0 {sz : Nat} : AVle nilSl (.lst sz [])
  | z0 {sz : Nat} : AVle .z0 (.lst sz [])
  | agg {as bs : List AV} (hl : as.length = bs.length) (h : ∀ (i : Nat) (a b : AV), as[i]? = some a -> bs[i]? = some b -> AVle a b) : AVle (.agg as) (.agg bs)
  | tup {as bs : List AV} (hl : as.length = bs.length) (h : ∀ (i : Nat) (a b : AV), as[i]? = some a -> bs[i]? = some b -> AVle a b) : AVle (.tup as) (.tup bs)
theorem AVle.rep {β : Lies} {n : Nat} {R : Nat -> Nat -> Value -> Prop} {a b : AV} (h : AVle a b) : ∀ {c : Value}, Rep β n R a c -> Rep β n R b c := by
  induction h with
  | same a => exact fun h => h
  | nil0 => intro c h; cases h; exact .lstNil _ _ _
  | z0 => intro c h; cases h; exact .lstNil _ _ _
  | @agg as bs hl _ ih =>
    intro c h
    cases h with
    | agg h1 h2 =>
      refine .agg (by omega) fun i b c hb hc => ?_
      have hi : i < as.length := by have := getElem?_lt hb; omega
      exact ih i as[i] b (by simp [hi]) hb (h2 i as[i] c (by simp [hi]) hc)
  | @tup as bs hl _ ih =>
    intro c h
    cases h with
    | tup h1 h2 =>
      refine .tup (by omega) fun i b c hb hc => ?_
      have hi : i < as.length := by have := getElem?_lt hb; omega
      exact ih i as[i] b (by simp [hi]) hb (h2 i as[i] c (by simp [hi]) hc)
theorem ACalls.weaken {P : Program} {f : FuncId} {as bs : List AV} {H : Heap} {Q : AV -> Heap -> Prop} (h : ACalls P f bs H Q) (hl : as.length = bs.length) (hle : ∀ (i : Nat) (a b : AV), as[i]? = some a -> bs[i]? = some b -> AVle a b) : ACalls P f as H Q :=
  ⟨h.ok, fun B β w cs hs hlen hr => h.go B β w cs hs (by omega) fun i b c hb hc => by
    have hi : i < as.length := by have := getElem?_lt hb; omega
    exact (hle i as[i] b (by simp [hi]) hb).rep (hr i as[i] c (by simp [hi]) hc)⟩
section
variable {G : CodG Θ}
theorem decL_le {t : Ty} {x : SV Θ} {y : t.T Θ} (h : decL t x = some y) : AVle (x.av G.cod) ((cellG t y).av G.cod) := by
  cases t with
  | i k =>
    simp only [decL] at h
    split at h
    · split at h
      · rename_i hk; subst hk; cases h; exact .same _
      · cases h
    · cases h
  | b =>
    simp only [decL] at h
    split at h
    · cases h; exact .same _
    · cases h; exact .same _
    · cases h
  | s =>
    simp only [decL] at h
    split at h
    · cases h; exact .same _
    · cases h
  | l c =>
    simp only [decL] at h
    split at h
    · obtain ⟨e, he⟩ := cast_some h
      subst e
      have he : y = _ := he
      subst he
      exact .same _
    · cases h; exact .nil0
    · cases h; exact .z0
    · cases h
theorem decLs_le : ∀ {ts : List Ty} {l : List (SV Θ)} {y : Tup Θ ts}, decLs ts l = some y -> l.length = (cellsG ts y).length ∧ ∀ (i : Nat) (a b : AV), (l.map (SV.av G.cod))[i]? = some a -> ((cellsG ts y).map (SV.av G.cod))[i]? = some b -> AVle a b := by
  intro ts
  induction ts with
  | nil =>
    intro l y h
    simp only [decLs] at h
    split at h
    · exact ⟨rfl, fun i a b h => by simp at h⟩
    · cases h
  | cons t ts ih =>
    intro l y h
    simp only [decLs] at h
    split at h
    · cases h
    · split at h
      · rename_i v hv
        split at h
        · rename_i vs hvs
          cases h
          obtain ⟨h1, h2⟩ := ih hvs
          refine ⟨by simp [cellsG, h1], fun i a b ha hb => ?_⟩
          cases i with
          | zero => simp [cellsG] at ha hb; subst ha; subst hb; exact decL_le hv
          | succ i => exact h2 i a b (by simpa using ha) (by simpa [cellsG] using hb)
        · cases h
      · cases h
theorem dec_le (g : CodGOk G) {a : ATy} {x : SV Θ} {y : a.T Θ} (h : a.dec G x = some y) : AVle (x.av G.cod) ((a.enc G y).av G.cod) := by
  cases a with
  | i k => exact decL_le (t := .i k) h
  | b => exact decL_le (t := .b) h
  | s => exact decL_le (t := .s) h
  | l c => exact decL_le (t := .l c) h
  | t c =>
    simp only [ATy.dec] at h
    split at h
    · rename_i cs
      split at h
      · rename_i z hz
        cases h
        obtain ⟨h1, h2⟩ := decLs_le (G := G) hz
        simp only [ATy.enc, SV.av, avL_map, g.to_fr]
        exact .agg (by simp [h1]) h2
      · cases h
    · cases h
theorem decAs_le (g : CodGOk G) : ∀ {as : List ATy} {l : List (SV Θ)} {y : ATup Θ as}, decAs G as l = some y -> l.length = (encAs G as y).length ∧ ∀ (i : Nat) (a b : AV), (l.map (SV.av G.cod))[i]? = some a -> ((encAs G as y).map (SV.av G.cod))[i]? = some b -> AVle a b := by
  intro as
  induction as with
  | nil =>
    intro l y h
    simp only [decAs] at h
    split at h
    · exact ⟨rfl, fun i a b h => by simp at h⟩
    · cases h
  | cons t ts ih =>
    intro l y h
    simp only [decAs] at h
    split at h
    · cases h
    · split at h
      · rename_i v hv
        split at h
        · rename_i vs hvs
          cases h
          obtain ⟨h1, h2⟩ := ih hvs
          refine ⟨by simp [encAs, h1], fun i a b ha hb => ?_⟩
          cases i with
          | zero => simp [encAs] at ha hb; subst ha; subst hb; exact dec_le g hv
          | succ i => exact h2 i a b (by simpa using ha) (by simpa [encAs] using hb)
        · cases h
      · cases h
variable {P : Program}
theorem KnownOk.nil {C : Cod Θ} : KnownOk P C [] := ⟨fun f g h => by simp [knownGet] at h, fun f b h k => by simp [effGet] at k⟩
theorem KnownOk.addG (g : CodGOk G) {K : KnownF Θ} (ko : KnownOk P G.cod K) {f : Nat} {as : List ATy} {F : ATup Θ as -> Cm (SV Θ)} {kn : Kn Θ} (hkn : kn = knG G as F ∨ kn = knS G as F ∧ ∀ y Q, (F y).den Q -> (F y).den fun v => Q v ∧ v.sc = true)
    (h : ∀ y Q, (F y).den Q -> ∃ v, Q v ∧ v.shut = true ∧ PCall P G.cod f (encAs G as y) (· = v)) : KnownOk P G.cod ((f, kn) :: K) := by
  have hget : ∀ k w, knownGet ((f, kn) :: K) k = some w -> (k = f ∧ w = knP G as F) ∨ (Nat.beq f k = false ∧ knownGet K k = some w) := by
    intro k w hw
    simp only [knownGet] at hw
    split at hw
    · rename_i hk
      have := nbeq_true hk
      rcases hkn with rfl | ⟨rfl, _⟩ <;> cases hw <;> exact .inl ⟨this.symm, rfl⟩
    · rename_i hk; exact .inr ⟨hk, hw⟩
  refine ⟨?_, fun k b w hw => ?_⟩
  rotate_left
  · simp only [effGet] at hw
    split at hw
    · rcases hkn with rfl | ⟨rfl, _⟩ <;> cases hw
    · exact ko.eff k b w hw
  intro k w hw args Q hs hd
  rcases hget k w hw with ⟨rfl, rfl⟩ | ⟨hk, hw⟩
  · unfold knP at hd
    split at hd
    · rename_i y hy
      obtain ⟨k1, k2⟩ := decAs_le g hy
      rcases hkn with rfl | ⟨rfl, hsc⟩
      · obtain ⟨v, h1, h2, h3⟩ := h y Q hd
        exact ⟨v, h1, h2, fun hx => by simp [scalK] at hx, fun H => (h3.pure H).weaken (by simp [k1]) k2⟩
      · obtain ⟨v, ⟨h1, h4⟩, h2, h3⟩ := h y _ (hsc y Q hd)
        exact ⟨v, h1, h2, fun _ => h4, fun H => (h3.pure H).weaken (by simp [k1]) k2⟩
    · exact hd.elim
  · obtain ⟨v, h1, h2, h3, h4⟩ := ko.pure k w hw args Q hs hd
    exact ⟨v, h1, h2, fun hx => h3 (by simpa [scalK, hk] using hx), h4⟩
theorem KnownOk.add (g : CodGOk G) {K : KnownF Θ} (ko : KnownOk P G.cod K) {f : Nat} {as : List ATy} {F : ATup Θ as -> Cm (SV Θ)} (h : ∀ y Q, (F y).den Q -> ∃ v, Q v ∧ v.shut = true ∧ PCall P G.cod f (encAs G as y) (· = v)) :
    KnownOk P G.cod ((f, knG G as F) :: K) := KnownOk.addG g ko (.inl rfl) h
theorem KnownOk.addS (g : CodGOk G) {K : KnownF Θ} (ko : KnownOk P G.cod K) {f : Nat} {as : List ATy} {F : ATup Θ as -> Cm (SV Θ)} (hsc : ∀ y Q, (F y).den Q -> (F y).den fun v => Q v ∧ v.sc = true) (h : ∀ y Q, (F y).den Q -> ∃ v, Q v ∧ v.shut = true ∧ PCall P G.cod f (encAs G as y) (· = v)) :
    KnownOk P G.cod ((f, knS G as F) :: K) := KnownOk.addG g ko (.inr ⟨rfl, hsc⟩) h
end
end Go.Ab
