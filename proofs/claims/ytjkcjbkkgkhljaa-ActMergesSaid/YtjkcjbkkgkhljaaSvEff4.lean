/- A part of a law's proof: SvEff4. -/
import Derived.Test.YtjkcjbkkgkhljaaSvLoop
set_option linter.constructorNameAsVariable false
/-
  Calls that change what they are handed: objects that are handed (roots), what they own, in one form.
-/
namespace Go.Ab
open Go Go.RowKit
set_option linter.unusedVariables false
set_option linter.unusedSimpArgs false
variable {Θ : Nat -> Type}
inductive CK where
  | v (t : Ty)
  | row (c : Nat)
  | map (c d : Nat)
  | ref (i : Nat)
  | fn (f : Nat) (refs : List Nat)
@[reducible] def CK.T (Θ : Nat -> Type) : CK -> Type
  | .v t => t.T Θ
  | .row c => List (Θ c)
  | .map c d => List (Θ c × Θ d)
  | .ref _ => Unit
  | .fn _ _ => Unit
@[reducible] def CTup (Θ : Nat -> Type) : List CK -> Type
  | [] => Unit
  | k :: ks => k.T Θ × CTup Θ ks
inductive OK where
  | box (cs : List CK)
  | row (c : Nat)
  | map (c d : Nat)
@[reducible] def OK.T (Θ : Nat -> Type) : OK -> Type
  | .box cs => CTup Θ cs
  | .row c => List (Θ c)
  | .map c d => List (Θ c × Θ d)
@[reducible] def OTup (Θ : Nat -> Type) : List OK -> Type
  | [] => Unit
  | k :: ks => k.T Θ × OTup Θ ks
def ptrsOf (refs : List Nat) : List (SV Θ) := refs.map fun i => .ptr i 0
def encCells : (ks : List CK) -> CTup Θ ks -> Nat -> List (SV Θ) × List (SO Θ)
  | [], _, _ => ([], [])
  | k :: ks, x, n => match k, x with
    | .v t, x => (cellG t x.1 :: (encCells ks x.2 n).1, (encCells ks x.2 n).2)
    | .row c, x => (.sl c n 0 x.1.length none :: (encCells ks x.2 (n + 1)).1, .arr c x.1 :: (encCells ks x.2 (n + 1)).2)
    | .map c d, x => (.mp n :: (encCells ks x.2 (n + 1)).1, .map c d x.1 :: (encCells ks x.2 (n + 1)).2)
    | .ref i, x => (.ptr i 0 :: (encCells ks x.2 n).1, (encCells ks x.2 n).2)
    | .fn f refs, x => (.fn f (ptrsOf refs) :: (encCells ks x.2 n).1, (encCells ks x.2 n).2)
def ownsC : List CK -> Nat
  | [] => 0
  | k :: ks => match k with
    | .row _ => ownsC ks + 1
    | .map _ _ => ownsC ks + 1
    | _ => ownsC ks
def encRoots : (ks : List OK) -> OTup Θ ks -> Nat -> List (SO Θ) × List (SO Θ)
  | [], _, _ => ([], [])
  | k :: ks, x, n => match k, x with
    | .box cs, x => (.box (encCells cs x.1 n).1 :: (encRoots ks x.2 (n + ownsC cs)).1, (encCells cs x.1 n).2 ++ (encRoots ks x.2 (n + ownsC cs)).2)
    | .row c, x => (.arr c x.1 :: (encRoots ks x.2 n).1, (encRoots ks x.2 n).2)
    | .map c d, x => (.map c d x.1 :: (encRoots ks x.2 n).1, (encRoots ks x.2 n).2)
def encH (ks : List OK) (x : OTup Θ ks) : SHeap Θ := (encRoots ks x ks.length).1 ++ (encRoots ks x ks.length).2
def refsFit (asg : List Nat) : List Nat -> List (SV Θ) -> Bool
  | [], cs => match cs with
    | [] => true
    | _ :: _ => false
  | i :: is, cs => match cs with
    | .ptr o 0 :: cs => match sNth asg i with
      | some o' => match Nat.beq o o' with
        | true => refsFit asg is cs
        | false => false
      | none => false
    | _ => false
def readRow (S : SHeap Θ) (c : Nat) : SV Θ -> Cm (List (Θ c) × Option Nat)
  | .v (.slice none 0 0) => .ret ([], none)
  | .z0 => .ret ([], none)
  | .sl c' o off len _ => match Nat.beq c' c, off with
    | true, 0 => match sNth S o with
      | some (.arr c'' xs) => match sCast c c'' xs with
        | some ys => .chk (len = ys.length) (.ret (ys, some o))
        | none => .no
      | _ => .no
    | _, _ => .no
  | _ => .no
def readMap (S : SHeap Θ) (c d : Nat) : SV Θ -> Option (List (Θ c × Θ d) × Nat)
  | .mp o => match sNth S o with
    | some (.map c' d' es) => if h : c' = c ∧ d' = d then some (h.1 ▸ h.2 ▸ es, o) else none
    | _ => none
  | _ => none
def readCells (asg : List Nat) (S : SHeap Θ) : (ks : List CK) -> List (SV Θ) -> Cm (CTup Θ ks × List (Option Nat))
  | [], cs => match cs with
    | [] => .ret ((), [])
    | _ :: _ => .no
  | k :: ks, cs => match cs with
    | [] => .no
    | x :: cs => match k with
      | .v t => match decV t x with
        | some y => (readCells asg S ks cs).bind fun r => .ret ((y, r.1), r.2)
        | none => .no
      | .row c => (readRow S c x).bind fun y => (readCells asg S ks cs).bind fun r => .ret ((y.1, r.1), y.2 :: r.2)
      | .map c d => match readMap S c d x with
        | some y => (readCells asg S ks cs).bind fun r => .ret ((y.1, r.1), some y.2 :: r.2)
        | none => .no
      | .ref i => match refsFit asg [i] [x] with
        | true => (readCells asg S ks cs).bind fun r => .ret (((), r.1), r.2)
        | false => .no
      | .fn f refs => match x with
        | .fn f' cap => match Nat.beq f f' with
          | true => match refsFit asg refs cap with
            | true => (readCells asg S ks cs).bind fun r => .ret (((), r.1), r.2)
            | false => .no
          | false => .no
        | _ => .no
def readRoots (asg : List Nat) (S : SHeap Θ) : (ks : List OK) -> List Nat -> Cm (OTup Θ ks × List (Option Nat))
  | [], os => match os with
    | [] => .ret ((), [])
    | _ :: _ => .no
  | k :: ks, os => match os with
    | [] => .no
    | o :: os => match k with
      | .box cs => match sNth S o with
        | some (.box xs) => (readCells asg S cs xs).bind fun y => (readRoots asg S ks os).bind fun r => .ret ((y.1, r.1), y.2 ++ r.2)
        | _ => .no
      | .row c => match sNth S o with
        | some (.arr c' xs) => match sCast c c' xs with
          | some ys => (readRoots asg S ks os).bind fun r => .ret ((ys, r.1), r.2)
          | none => .no
        | _ => .no
      | .map c d => match readMap S c d (.mp o) with
        | some y => (readRoots asg S ks os).bind fun r => .ret ((y.1, r.1), r.2)
        | none => .no
section
variable {C : Cod Θ} {ι ι0 : Emb} {A : Base} {S : SHeap Θ} {H : Heap} {asg : List Nat}
def whereO (ι : Emb) : Option Nat -> Option Nat
  | some o => (ι[o]?).getD none
  | none => none
def FitO (C : Cod Θ) (ι0 : Emb) (H : Heap) (x : SO Θ) (p : Option Nat) : Prop :=
  match p with
  | some p => ∃ y, H[p]? = some y ∧ RObj C ι0 x y
  | none => ∃ c, x = .arr c []
theorem decV_same {t : Ty} {x : SV Θ} {y : t.T Θ} (h : decV t x = some y) {a : AV} (hx : RV C ι x a) : RV C ι0 (cellG t y) a := by
  rw [decV_rv h hx]
  exact RV.of_av (cellG_shut t y)
theorem refsFit_rv (hasg : ∀ (i o : Nat), asg[i]? = some o -> ι0[i]? = some (whereO ι (some o))) : ∀ {is : List Nat} {cs : List (SV Θ)}, refsFit asg is cs = true -> ∀ {as : List AV}, RVs C ι cs as -> RVs C ι0 (ptrsOf is) as := by
  intro is
  induction is with
  | nil =>
    intro cs h as hr
    simp only [refsFit] at h
    split at h
    · rw [hr.unnil]; exact .nil
    · cases h
  | cons i is ih =>
    intro cs h as hr
    simp only [refsFit] at h
    split at h
    · split at h
      · rename_i o' ho'
        split at h
        · rename_i he
          have := nbeq_true he
          subst this
          obtain ⟨a, bs, rfl, ha, hb⟩ := hr.uncons
          rw [nth_get] at ho'
          have h1 := hasg i _ ho'
          refine .cons ?_ (ih h hb)
          cases ha with
          | ptr ho => exact .ptr (by rw [h1]; simp [whereO, ho])
        · cases h
      · cases h
    · cases h
theorem readRow_rv (r : RH C A ι S H) {c : Nat} {x : SV Θ} {a : AV} (hx : RV C ι x a) {K : List (Θ c) × Option Nat -> Prop} (h : (readRow S c x).den K) :
    ∃ y o, K (y, o) ∧ (∀ o', o = some o' -> o' < S.length ∧ S[o']? = some (.arr c y)) ∧ ∀ (ι0 : Emb) (n : Nat), ι0[n]? = some (whereO ι o) -> RV C ι0 (.sl c n 0 y.length none) a ∧ FitO C ι0 H (.arr c y) (whereO ι o) := by
  unfold readRow at h
  split at h
  · cases hx with
    | v => exact ⟨[], none, h, fun o' h => (by cases h), fun ι0 n hn => ⟨.slNil hn (.inl rfl) (.inl rfl), c, rfl⟩⟩
  · cases hx with
    | z0 => exact ⟨[], none, h, fun o' h => (by cases h), fun ι0 n hn => ⟨.slNil hn (.inl rfl) (.inr rfl), c, rfl⟩⟩
  · rename_i c' o off len cap
    split at h
    · rename_i hc
      have := nbeq_true hc
      subst this
      split at h
      · rename_i c'' xs hs
        split at h
        · rename_i ys hys
          obtain ⟨e, he⟩ := cast_some hys
          subst e
          have he : ys = xs := he
          subst he
          obtain ⟨h1, h2⟩ := h
          have hs' := hs
          rw [nth_get] at hs'
          refine ⟨ys, some o, h2, fun o' h => by cases h; exact ⟨getElem?_lt hs', hs'⟩, fun ι0 n hn => ?_⟩
          cases hx with
          | slNil ho hc' ha =>
            have hy : ys = [] := List.length_eq_zero_iff.1 h1.symm
            subst hy
            have hw : whereO ι (some o) = none := by simp [whereO, ho]
            rw [hw] at hn ⊢
            exact ⟨.slNil hn (.inl rfl) ha, c'', rfl⟩
          | @sl _ _ _ _ _ acap p ho hk hc' =>
            have hw : whereO ι (some o) = some p := by simp [whereO, ho]
            rw [hw] at hn ⊢
            obtain ⟨y, hy, hr⟩ := r.get ho hs (by simp)
            subst h1
            refine ⟨.sl hn hk (.inr rfl), y, hy, ?_⟩
            cases hr with
            | arr _ _ ext => exact .arr _ _ ext
        · exact h.elim
      · exact h.elim
    · exact h.elim
  · exact h.elim
theorem readMap_rv (r : RH C A ι S H) {c d : Nat} {x : SV Θ} {a : AV} (hx : RV C ι x a) {y : List (Θ c × Θ d) × Nat} (h : readMap S c d x = some y) :
    (y.2 < S.length ∧ S[y.2]? = some (.map c d y.1)) ∧ ∃ p, ι[y.2]? = some (some p) ∧ ∀ (ι0 : Emb) (n : Nat), ι0[n]? = some (some p) -> RV C ι0 (.mp n) a ∧ FitO C ι0 H (.map c d y.1) (some p) := by
  unfold readMap at h
  split at h
  · rename_i o
    split at h
    · rename_i c' d' es hs
      split at h
      · rename_i hcd
        obtain ⟨rfl, rfl⟩ := hcd
        cases h
        have hs' := hs
        rw [nth_get] at hs'
        cases hx with
        | mp ho =>
          obtain ⟨z, hz, hr⟩ := r.get ho hs (by simp)
          refine ⟨⟨getElem?_lt hs', hs'⟩, _, ho, fun ι0 n hn => ⟨.mp hn, z, hz, ?_⟩⟩
          cases hr with
          | map _ _ es => exact .map _ _ es
      · cases h
    · cases h
  · cases h
def LiveO (S : SHeap Θ) (o : Nat) : Prop := ∃ x, S[o]? = some x ∧ x ≠ .dead ∧ ∀ (q : Nat) (t : TypeId), x ≠ .tag q t
def At0 (ι ι0 : Emb) (n : Nat) (os : List (Option Nat)) : Prop := ∀ (k : Nat) (o : Option Nat), os[k]? = some o -> ι0[n + k]? = some (whereO ι o)
theorem At0.cons {n : Nat} {o : Option Nat} {os : List (Option Nat)} (h : At0 ι ι0 n (o :: os)) : ι0[n]? = some (whereO ι o) ∧ At0 ι ι0 (n + 1) os :=
  ⟨by simpa using h 0 o rfl, fun k o' hk => by have := h (k + 1) o' (by simpa using hk); rw [show n + 1 + k = n + (k + 1) by omega]; exact this⟩
theorem At0.app {n : Nat} {os ps : List (Option Nat)} (h : At0 ι ι0 n (os ++ ps)) : At0 ι ι0 n os ∧ At0 ι ι0 (n + os.length) ps :=
  ⟨fun k o hk => h k o (by rw [List.getElem?_append_left (getElem?_lt hk)]; exact hk),
   fun k o hk => by have := h (os.length + k) o (by rw [List.getElem?_append_right (by omega)]; simpa using hk); rw [Nat.add_assoc]; exact this⟩
def Fits (C : Cod Θ) (ι ι0 : Emb) (H : Heap) (xs : List (SO Θ)) (os : List (Option Nat)) : Prop :=
  xs.length = os.length ∧ ∀ (k : Nat) (x : SO Θ) (o : Option Nat), xs[k]? = some x -> os[k]? = some o -> FitO C ι0 H x (whereO ι o)
theorem Fits.nil : Fits C ι ι0 H [] [] := ⟨rfl, fun k x o h => by simp at h⟩
theorem Fits.cons {x : SO Θ} {o : Option Nat} {xs : List (SO Θ)} {os : List (Option Nat)} (h : FitO C ι0 H x (whereO ι o)) (hs : Fits C ι ι0 H xs os) : Fits C ι ι0 H (x :: xs) (o :: os) :=
  ⟨by simp [hs.1], fun k y p hy hp => by
    cases k with
    | zero => simp at hy hp; subst hy; subst hp; exact h
    | succ k => exact hs.2 k y p (by simpa using hy) (by simpa using hp)⟩
theorem Fits.app {xs ys : List (SO Θ)} {os ps : List (Option Nat)} (h : Fits C ι ι0 H xs os) (k : Fits C ι ι0 H ys ps) : Fits C ι ι0 H (xs ++ ys) (os ++ ps) := by
  refine ⟨by simp [h.1, k.1], fun i x o hx ho => ?_⟩
  rcases Nat.lt_or_ge i xs.length with h1 | h1
  · rw [List.getElem?_append_left h1] at hx
    rw [List.getElem?_append_left (by rw [<- h.1]; exact h1)] at ho
    exact h.2 i x o hx ho
  · rw [List.getElem?_append_right h1] at hx
    rw [List.getElem?_append_right (by rw [<- h.1]; exact h1), <- h.1] at ho
    exact k.2 _ x o hx ho
abbrev AsgOk (ι ι0 : Emb) (asg : List Nat) : Prop := ∀ (i o : Nat), asg[i]? = some o -> ι0[i]? = some (whereO ι (some o))
theorem readCells_rv (r : RH C A ι S H) : ∀ {ks : List CK} {cs : List (SV Θ)} {as : List AV}, RVs C ι cs as -> ∀ {K : CTup Θ ks × List (Option Nat) -> Prop}, (readCells asg S ks cs).den K ->
    ∃ y os, K (y, os) ∧ os.length = ownsC ks ∧ (∀ o, some o ∈ os -> LiveO S o) ∧ ∀ (ι0 : Emb) (n : Nat), AsgOk ι ι0 asg -> At0 ι ι0 n os -> RVs C ι0 (encCells ks y n).1 as ∧ Fits C ι ι0 H (encCells ks y n).2 os := by
  intro ks
  induction ks with
  | nil =>
    intro cs as hr K h
    simp only [readCells] at h
    split at h
    · rw [hr.unnil]; exact ⟨(), [], h, rfl, fun o h => by simp at h, fun ι0 n _ _ => ⟨.nil, .nil⟩⟩
    · exact h.elim
  | cons k ks ih =>
    intro cs as hr K h
    simp only [readCells] at h
    split at h
    · exact h.elim
    · rename_i x cs
      obtain ⟨a, bs, rfl, ha, hb⟩ := hr.uncons
      split at h
      · rename_i t
        split at h
        · rename_i y hy
          obtain ⟨ys, os, h1, h2, h3, h4⟩ := ih hb (Cm.den_bind h)
          exact ⟨(y, ys), os, h1, h2, h3, fun ι0 n hA hn => ⟨.cons (decV_same hy ha) (h4 ι0 n hA hn).1, (h4 ι0 n hA hn).2⟩⟩
        · exact h.elim
      · rename_i c
        obtain ⟨y, o, k1, k2, k3⟩ := readRow_rv r ha (Cm.den_bind h)
        obtain ⟨ys, os, h1, h2, h3, h4⟩ := ih hb (Cm.den_bind k1)
        refine ⟨(y, ys), o :: os, h1, by simp [ownsC, h2], fun o' ho' => ?_, fun ι0 n hA hn => ?_⟩
        · rcases List.mem_cons.1 ho' with h' | h'
          · obtain ⟨_, k5⟩ := k2 o' h'.symm
            exact ⟨_, k5, by simp, by simp⟩
          · exact h3 o' h'
        · obtain ⟨n1, n2⟩ := hn.cons
          obtain ⟨m1, m2⟩ := k3 ι0 n n1
          obtain ⟨m3, m4⟩ := h4 ι0 (n + 1) hA n2
          exact ⟨.cons m1 m3, .cons m2 m4⟩
      · rename_i c d
        split at h
        · rename_i y hy
          obtain ⟨⟨_, k0⟩, p, k1, k2⟩ := readMap_rv r ha hy
          obtain ⟨ys, os, h1, h2, h3, h4⟩ := ih hb (Cm.den_bind h)
          have hw : whereO ι (some y.2) = some p := by simp [whereO, k1]
          refine ⟨(y.1, ys), some y.2 :: os, h1, by simp [ownsC, h2], fun o' ho' => ?_, fun ι0 n hA hn => ?_⟩
          · rcases List.mem_cons.1 ho' with h' | h'
            · cases h'; exact ⟨_, k0, by simp, by simp⟩
            · exact h3 o' h'
          · obtain ⟨n1, n2⟩ := hn.cons
            rw [hw] at n1
            obtain ⟨m1, m2⟩ := k2 ι0 n n1
            obtain ⟨m3, m4⟩ := h4 ι0 (n + 1) hA n2
            exact ⟨.cons m1 m3, .cons (by rw [hw]; exact m2) m4⟩
        · exact h.elim
      · rename_i i
        split at h
        · rename_i hf
          obtain ⟨ys, os, h1, h2, h3, h4⟩ := ih hb (Cm.den_bind h)
          refine ⟨((), ys), os, h1, h2, h3, fun ι0 n hA hn => ⟨.cons ?_ (h4 ι0 n hA hn).1, (h4 ι0 n hA hn).2⟩⟩
          obtain ⟨b, bs', e, hb', _⟩ := (refsFit_rv hA hf (RVs.cons ha .nil)).uncons
          cases e; exact hb'
        · exact h.elim
      · rename_i f refs
        split at h
        · rename_i f' cap
          split at h
          · rename_i hff
            have := nbeq_true hff
            subst this
            split at h
            · rename_i hf
              obtain ⟨ys, os, h1, h2, h3, h4⟩ := ih hb (Cm.den_bind h)
              refine ⟨((), ys), os, h1, h2, h3, fun ι0 n hA hn => ⟨.cons ?_ (h4 ι0 n hA hn).1, (h4 ι0 n hA hn).2⟩⟩
              cases ha with
              | fn hl hh =>
                have := refsFit_rv hA hf ⟨hl, hh⟩
                exact .fn this.1 this.2
            · exact h.elim
          · exact h.elim
        · exact h.elim
def ownsR : List OK -> Nat
  | [] => 0
  | k :: ks => match k with
    | .box cs => ownsC cs + ownsR ks
    | _ => ownsR ks
theorem where_box (r : RH C A ι S H) {o : Nat} {xs : List (SV Θ)} (h : S[o]? = some (.box xs)) : ∃ p as, ι[o]? = some (some p) ∧ H[p]? = some (.cells as) ∧ RVs C ι xs as := by
  have hlt := getElem?_lt h
  have hι : ι[o]? = some (ι[o]'(by rw [r.len]; exact hlt)) := by simp [r.len, hlt]
  generalize ι[o]'(by rw [r.len]; exact hlt) = q at hι
  cases q with
  | none =>
    rcases r.nil o _ hι h with h1 | ⟨c, h1⟩ | ⟨q, t, h1⟩ <;> cases h1
  | some p =>
    rcases r.obj o p _ hι h with h1 | ⟨y, h1, h2⟩
    · cases h1
    · cases h2 with
      | box hb => exact ⟨p, _, hι, h1, hb⟩
theorem readRoots_rv (r : RH C A ι S H) : ∀ {ks : List OK} {os : List Nat} {K : OTup Θ ks × List (Option Nat) -> Prop}, (readRoots asg S ks os).den K ->
    ∃ y ow, K (y, ow) ∧ ow.length = ownsR ks ∧ os.length = ks.length ∧ (∀ o, some o ∈ ow -> LiveO S o) ∧ (∀ o ∈ os, LiveO S o) ∧
      ∀ (ι0 : Emb) (n : Nat), AsgOk ι ι0 asg -> At0 ι ι0 n ow -> Fits C ι ι0 H (encRoots ks y n).1 (os.map some) ∧ Fits C ι ι0 H (encRoots ks y n).2 ow := by
  intro ks
  induction ks with
  | nil =>
    intro os K h
    simp only [readRoots] at h
    split at h
    · exact ⟨(), [], h, rfl, rfl, fun o h => by simp at h, fun o h => by simp at h, fun ι0 n _ _ => ⟨.nil, .nil⟩⟩
    · exact h.elim
  | cons k ks ih =>
    intro os K h
    simp only [readRoots] at h
    split at h
    · exact h.elim
    · rename_i o os
      split at h
      · rename_i cs
        split at h
        · rename_i xs hs
          rw [nth_get] at hs
          obtain ⟨p, as, hp, hH, hb⟩ := where_box r hs
          obtain ⟨y, ow1, k1, k2, k3, k4⟩ := readCells_rv r hb (Cm.den_bind h)
          obtain ⟨ys, ow2, h1, h2, h3, h4, h5, h6⟩ := ih (Cm.den_bind k1)
          refine ⟨(y, ys), ow1 ++ ow2, h1, by simp [ownsR, k2, h2], by simp [h3], fun o' ho' => ?_, fun o' ho' => ?_, fun ι0 n hA hn => ?_⟩
          · rcases List.mem_append.1 ho' with h' | h'
            · exact k3 o' h'
            · exact h4 o' h'
          · rcases List.mem_cons.1 ho' with h' | h'
            · subst h'; exact ⟨_, hs, by simp, by simp⟩
            · exact h5 o' h'
          · obtain ⟨n1, n2⟩ := hn.app
            rw [k2] at n2
            obtain ⟨m1, m2⟩ := k4 ι0 n hA n1
            obtain ⟨m3, m4⟩ := h6 ι0 _ hA n2
            refine ⟨.cons ?_ m3, .app m2 m4⟩
            have hw : whereO ι (some o) = some p := by simp [whereO, hp]
            rw [hw]
            exact ⟨_, hH, .box m1⟩
        · exact h.elim
      · rename_i c
        split at h
        · rename_i c' xs hs
          split at h
          · rename_i ys hys
            obtain ⟨e, he⟩ := cast_some hys
            subst e
            have he : ys = xs := he
            subst he
            rw [nth_get] at hs
            obtain ⟨zs, ow2, h1, h2, h3, h4, h5, h6⟩ := ih (Cm.den_bind h)
            refine ⟨(ys, zs), ow2, h1, h2, by simp [h3], h4, fun o' ho' => ?_, fun ι0 n hA hn => ?_⟩
            · rcases List.mem_cons.1 ho' with h' | h'
              · subst h'; exact ⟨_, hs, by simp, by simp⟩
              · exact h5 o' h'
            · obtain ⟨m3, m4⟩ := h6 ι0 n hA hn
              refine ⟨.cons ?_ m3, m4⟩
              have hlt := getElem?_lt hs
              have hι : ι[o]? = some (ι[o]'(by rw [r.len]; exact hlt)) := by simp [r.len, hlt]
              generalize ι[o]'(by rw [r.len]; exact hlt) = q at hι
              have hw : whereO ι (some o) = q := by simp [whereO, hι]
              rw [hw]
              cases q with
              | none =>
                rcases r.nil o _ hι hs with e1 | ⟨c2, e1⟩ | ⟨q, t, e1⟩
                · cases e1
                · cases e1; exact ⟨_, rfl⟩
                · cases e1
              | some p =>
                rcases r.obj o p _ hι hs with e1 | ⟨z, e1, e2⟩
                · cases e1
                · refine ⟨z, e1, ?_⟩
                  cases e2 with
                  | arr _ _ ext => exact .arr _ _ ext
          · exact h.elim
        · exact h.elim
      · rename_i c d
        split at h
        · rename_i y hy
          obtain ⟨zs, ow2, h1, h2, h3, h4, h5, h6⟩ := ih (Cm.den_bind h)
          unfold readMap at hy
          simp only at hy
          split at hy
          · rename_i c' d' es hs
            split at hy
            · rename_i hcd
              obtain ⟨rfl, rfl⟩ := hcd
              cases hy
              rw [nth_get] at hs
              refine ⟨(es, zs), ow2, h1, h2, by simp [h3], h4, fun o' ho' => ?_, fun ι0 n hA hn => ?_⟩
              · rcases List.mem_cons.1 ho' with h' | h'
                · subst h'; exact ⟨_, hs, by simp, by simp⟩
                · exact h5 o' h'
              · obtain ⟨m3, m4⟩ := h6 ι0 n hA hn
                refine ⟨.cons ?_ m3, m4⟩
                have hlt := getElem?_lt hs
                have hι : ι[o]? = some (ι[o]'(by rw [r.len]; exact hlt)) := by simp [r.len, hlt]
                generalize ι[o]'(by rw [r.len]; exact hlt) = q at hι
                have hw : whereO ι (some o) = q := by simp [whereO, hι]
                rw [hw]
                cases q with
                | none =>
                  rcases r.nil o _ hι hs with e1 | ⟨c2, e1⟩ | ⟨q, t, e1⟩ <;> cases e1
                | some p =>
                  rcases r.obj o p _ hι hs with e1 | ⟨z, e1, e2⟩
                  · cases e1
                  · refine ⟨z, e1, ?_⟩
                    cases e2 with
                    | map _ _ es => exact .map _ _ es
            · cases hy
          · cases hy
        · exact h.elim
def optMem (o : Nat) : List (Option Nat) -> Bool
  | [] => false
  | x :: xs => match x with
    | none => optMem o xs
    | some p => match Nat.beq p o with
      | true => true
      | false => optMem o xs
def optNodup : List (Option Nat) -> Bool
  | [] => true
  | x :: xs => match x with
    | none => optNodup xs
    | some o => match optMem o xs with
      | true => false
      | false => optNodup xs
theorem optMem_of {o : Nat} : ∀ {l : List (Option Nat)}, some o ∈ l -> optMem o l = true := by
  intro l
  induction l with
  | nil => intro h; simp at h
  | cons x xs ih =>
    intro h
    simp only [optMem]
    split
    · rcases List.mem_cons.1 h with h' | h'
      · cases h'
      · exact ih h'
    · split
      · rfl
      · rename_i p hp
        rcases List.mem_cons.1 h with h' | h'
        · cases h'; exact absurd rfl (nbeq_false hp)
        · exact ih h'
theorem optNodup_get : ∀ {l : List (Option Nat)}, optNodup l = true -> ∀ (i j o : Nat), l[i]? = some (some o) -> l[j]? = some (some o) -> i = j := by
  intro l
  induction l with
  | nil => intro _ i j o h; simp at h
  | cons x xs ih =>
    intro h i j o hi hj
    simp only [optNodup] at h
    have hxs : optNodup xs = true := by
      split at h
      · exact h
      · split at h
        · cases h
        · exact h
    have hno : ∀ o, x = some o -> some o ∉ xs := by
      intro o hx hm
      subst hx
      simp only [optMem_of hm] at h
      cases h
    cases i with
    | zero =>
      cases j with
      | zero => rfl
      | succ j =>
        simp at hi hj
        exact absurd (List.mem_of_getElem? hj) (hno o hi)
    | succ i =>
      cases j with
      | zero =>
        simp at hi hj
        exact absurd (List.mem_of_getElem? hi) (hno o hj)
      | succ j => rw [ih hxs i j o (by simpa using hi) (by simpa using hj)]
theorem enc_RH (r : RH C A ι S H) {xs : List (SO Θ)} {ps : List (Option Nat)} (hf : Fits C ι (ps.map (whereO ι)) H xs ps) (hlive : ∀ o, some o ∈ ps -> LiveO S o) (hnd : optNodup ps = true) {A' : Base}
    (own : ∀ (i p : Nat), (ps.map (whereO ι))[i]? = some (some p) -> A'.H.length <= p ∨ A'.mine p) (big : A'.H.length <= H.length) (base : ∀ p, p < A'.H.length -> ¬ A'.mine p -> H[p]? = A'.H[p]?)
    (rts : ∀ (i : Nat) (x : Option Nat), A'.roots[i]? = some x -> (ps.map (whereO ι))[i]? = some x) : RH C A' (ps.map (whereO ι)) xs H := by
  have back : ∀ {i p : Nat}, (ps.map (whereO ι))[i]? = some (some p) -> ∃ o, ps[i]? = some (some o) ∧ ι[o]? = some (some p) := by
    intro i p h
    rw [List.getElem?_map, Option.map_eq_some_iff] at h
    obtain ⟨q, h1, h2⟩ := h
    cases q with
    | none => cases h2
    | some o =>
      refine ⟨o, h1, ?_⟩
      simp only [whereO] at h2
      cases h3 : ι[o]? with
      | none => rw [h3] at h2; cases h2
      | some y => rw [h3] at h2; simp at h2; rw [h2]
  have fit : ∀ {i : Nat} {x : SO Θ} {q : Option Nat}, xs[i]? = some x -> (ps.map (whereO ι))[i]? = some q -> FitO C (ps.map (whereO ι)) H x q := by
    intro i x q hx hq
    rw [List.getElem?_map, Option.map_eq_some_iff] at hq
    obtain ⟨o, h1, rfl⟩ := hq
    exact hf.2 i x o hx h1
  have notag : ∀ {i q : Nat} {t : TypeId}, xs[i]? = some (.tag q t) -> False := by
    intro i q t hx
    have hi := getElem?_lt hx
    have hp : (ps.map (whereO ι))[i]? = some ((ps.map (whereO ι))[i]'(by rw [List.length_map, <- hf.1]; exact hi)) := by simp [<- hf.1, hi]
    have := fit hx hp
    revert this
    generalize (ps.map (whereO ι))[i]'(by rw [List.length_map, <- hf.1]; exact hi) = q2
    intro this
    cases q2 with
    | none => obtain ⟨c, h⟩ := this; cases h
    | some p => obtain ⟨y, _, h⟩ := this; exact h.notag q t rfl
  refine ⟨by rw [List.length_map, hf.1], fun i p h => ?_, fun i j p hi hj => ?_, fun i p x hi hx => ?_, fun i x hi hx => ?_, fun j q t hj => (notag hj).elim, own, big, base, rts⟩
  · obtain ⟨o, _, h2⟩ := back h; exact r.lt o p h2
  · obtain ⟨o, h1, h2⟩ := back hi
    obtain ⟨o', h3, h4⟩ := back hj
    rcases r.inj o o' p h2 h4 with h | h | h
    · subst h; exact .inl (optNodup_get hnd i j o h1 h3)
    · obtain ⟨x, k1, k2, _⟩ := hlive o (List.mem_of_getElem? h1)
      rw [k1] at h; exact absurd (Option.some.inj h) k2
    · obtain ⟨x, k1, k2, _⟩ := hlive o' (List.mem_of_getElem? h3)
      rw [k1] at h; exact absurd (Option.some.inj h) k2
  · exact .inr (fit hx hi)
  · exact .inr (.inl (fit hx hi))
end
end Go.Ab
/-
  Calls that change what they are handed: what they give, and memory behind them, in one form.
-/
namespace Go.Ab
open Go Go.RowKit
set_option linter.unusedVariables false
set_option linter.unusedSimpArgs false
variable {Θ : Nat -> Type}
inductive RK where
  | p (a : ATy)
  | row (c : Nat)
  | ref (i : Nat)
@[reducible] def RK.T (Θ : Nat -> Type) : RK -> Type
  | .p a => a.T Θ
  | .row c => List (Θ c)
  | .ref _ => Unit
@[reducible] def RTup (Θ : Nat -> Type) : List RK -> Type
  | [] => Unit
  | k :: ks => k.T Θ × RTup Θ ks
def encRes (G : CodG Θ) : (ks : List RK) -> RTup Θ ks -> Nat -> List (SV Θ) × List (SO Θ)
  | [], _, _ => ([], [])
  | k :: ks, x, n => match k, x with
    | .p a, x => (a.enc G x.1 :: (encRes G ks x.2 n).1, (encRes G ks x.2 n).2)
    | .row c, x => (.sl c n 0 x.1.length none :: (encRes G ks x.2 (n + 1)).1, .arr c x.1 :: (encRes G ks x.2 (n + 1)).2)
    | .ref i, x => (.ptr i 0 :: (encRes G ks x.2 n).1, (encRes G ks x.2 n).2)
def ownsS : List RK -> Nat
  | [] => 0
  | k :: ks => match k with
    | .row _ => ownsS ks + 1
    | _ => ownsS ks
def readRes (G : CodG Θ) (asg : List Nat) (S : SHeap Θ) : (ks : List RK) -> List (SV Θ) -> Cm (RTup Θ ks × List (Option Nat))
  | [], cs => match cs with
    | [] => .ret ((), [])
    | _ :: _ => .no
  | k :: ks, cs => match cs with
    | [] => .no
    | x :: cs => match k with
      | .p a => match x.shut with
        | true => match a.dec G x with
          | some y => (readRes G asg S ks cs).bind fun r => .ret ((y, r.1), r.2)
          | none => .no
        | false => .no
      | .row c => (readRow S c x).bind fun y => (readRes G asg S ks cs).bind fun r => .ret ((y.1, r.1), y.2 :: r.2)
      | .ref i => match refsFit asg [i] [x] with
        | true => (readRes G asg S ks cs).bind fun r => .ret (((), r.1), r.2)
        | false => .no
def resS (vs : List (SV Θ)) : SV Θ :=
  match vs with
  | [v] => v
  | vs => .tup vs
def compsS (ks : List RK) (w : SV Θ) : Option (List (SV Θ)) :=
  match ks with
  | [_] => some [w]
  | _ => match w with
    | .tup cs => some cs
    | _ => none
def isP : RK -> Bool
  | .p _ => true
  | _ => false
def frzRows (ks : List RK) (w : SV Θ) : List Nat :=
  match compsS ks w with
  | some cs => rowsFlag (ks.map isP) cs
  | none => []
def finE (G : CodG Θ) (ks : List OK) (rs : List RK) (w : SV Θ) (S : SHeap Θ) : Cm (RTup Θ rs × OTup Θ ks) :=
  (freezeL (frzRows rs w) [(0, w)] S).bind fun q => match compsS rs (q.1.get 0) with
    | some cs => (readRes G (upTo ks.length) q.2 rs cs).bind fun y => (readRoots (upTo ks.length) q.2 ks (upTo ks.length)).bind fun x =>
      match optNodup ((upTo ks.length).map some ++ (x.2 ++ y.2)) with
      | true => .ret (y.1, x.1)
      | false => .no
    | none => .no
def encOut (G : CodG Θ) (ks : List OK) (x : OTup Θ ks) (rs : List RK) (y : RTup Θ rs) : SHeap Θ :=
  (encRoots ks x ks.length).1 ++ ((encRoots ks x ks.length).2 ++ (encRes G rs y (ks.length + ownsR ks)).2)
def outV (G : CodG Θ) (ks : List OK) (rs : List RK) (y : RTup Θ rs) : SV Θ := resS (encRes G rs y (ks.length + ownsR ks)).1
def ECall (P : Program) (G : CodG Θ) (f : FuncId) (ks : List OK) (args : List (SV Θ)) (x : OTup Θ ks) (rs : List RK) (K : RTup Θ rs -> OTup Θ ks -> Prop) : Prop :=
  ∀ (A : Base) (ι : Emb) (as : List AV) (H : Heap), A.roots.length <= ks.length -> RVs G.cod ι args as -> RH G.cod A ι (encH ks x) H ->
    ACalls P f as H fun r H' => ∃ y x' ι', K y x' ∧ RV G.cod ι' (outV G ks rs y) r ∧ RH G.cod A ι' (encOut G ks x' rs y) H'
section
variable {G : CodG Θ} {ι ι0 : Emb} {A : Base} {S : SHeap Θ} {H : Heap} {asg : List Nat}
theorem encRes_len : ∀ {ks : List RK} {x : RTup Θ ks} {n : Nat}, (encRes G ks x n).1.length = ks.length := by
  intro ks
  induction ks with
  | nil => intro x n; rfl
  | cons k ks ih => intro x n; cases k <;> simp [encRes, ih]
theorem readRes_rv (g : CodGOk G) (r : RH G.cod A ι S H) : ∀ {ks : List RK} {cs : List (SV Θ)} {as : List AV}, RVs G.cod ι cs as -> ∀ {K : RTup Θ ks × List (Option Nat) -> Prop}, (readRes G asg S ks cs).den K ->
    ∃ y os bs, K (y, os) ∧ os.length = ownsS ks ∧ (∀ o, some o ∈ os -> LiveO S o) ∧ as.length = bs.length ∧ (∀ (i : Nat) (a b : AV), as[i]? = some a -> bs[i]? = some b -> AVle a b) ∧
      ∀ (ι0 : Emb) (n : Nat), AsgOk ι ι0 asg -> At0 ι ι0 n os -> RVs G.cod ι0 (encRes G ks y n).1 bs ∧ Fits G.cod ι ι0 H (encRes G ks y n).2 os := by
  intro ks
  induction ks with
  | nil =>
    intro cs as hr K h
    simp only [readRes] at h
    split at h
    · rw [hr.unnil]; exact ⟨(), [], [], h, rfl, fun o h => by simp at h, rfl, fun i a b h => by simp at h, fun ι0 n _ _ => ⟨.nil, .nil⟩⟩
    · exact h.elim
  | cons k ks ih =>
    intro cs as hr K h
    simp only [readRes] at h
    split at h
    · exact h.elim
    · rename_i x cs
      obtain ⟨a, as, rfl, ha, hb⟩ := hr.uncons
      have le : ∀ {b : AV} {bs : List AV}, AVle a b -> (∀ (i : Nat) (a b : AV), as[i]? = some a -> bs[i]? = some b -> AVle a b) -> ∀ (i : Nat) (c d : AV), (a :: as)[i]? = some c -> (b :: bs)[i]? = some d -> AVle c d := by
        intro b bs h1 h2 i c d hc hd
        cases i with
        | zero => simp at hc hd; subst hc; subst hd; exact h1
        | succ i => exact h2 i c d (by simpa using hc) (by simpa using hd)
      split at h
      · rename_i t
        split at h
        · rename_i hsh
          split at h
          · rename_i y hy
            obtain ⟨ys, os, bs, h1, h2, h3, h4, h5, h6⟩ := ih hb (Cm.den_bind h)
            have hle := dec_le g hy
            rw [<- ha.eq_av hsh] at hle
            have hys : (t.enc G y).shut = true := by
              cases t with
              | t c =>
                simp only [ATy.enc, SV.shut]
                have : ∀ (l : List (SV Θ)), (∀ z ∈ l, z.shut = true) -> SV.shut.shutL l = true := by
                  intro l
                  induction l with
                  | nil => intro _; rfl
                  | cons z l ih => intro hl; simp only [SV.shut.shutL, hl z (by simp)]; exact ih fun u hu => hl u (by simp [hu])
                exact this _ (cellsG_shut _ _)
              | _ => rfl
            exact ⟨(y, ys), os, (t.enc G y).av G.cod :: bs, h1, h2, h3, by simp [h4], le hle h5, fun ι0 n hA hn => ⟨.cons (RV.of_av hys) (h6 ι0 n hA hn).1, (h6 ι0 n hA hn).2⟩⟩
          · exact h.elim
        · exact h.elim
      · rename_i c
        obtain ⟨y, o, k1, k2, k3⟩ := readRow_rv r ha (Cm.den_bind h)
        obtain ⟨ys, os, bs, h1, h2, h3, h4, h5, h6⟩ := ih hb (Cm.den_bind k1)
        refine ⟨(y, ys), o :: os, a :: bs, h1, by simp [ownsS, h2], fun o' ho' => ?_, by simp [h4], le (.same a) h5, fun ι0 n hA hn => ?_⟩
        · rcases List.mem_cons.1 ho' with h' | h'
          · obtain ⟨_, k5⟩ := k2 o' h'.symm
            exact ⟨_, k5, by simp, by simp⟩
          · exact h3 o' h'
        · obtain ⟨n1, n2⟩ := hn.cons
          obtain ⟨m1, m2⟩ := k3 ι0 n n1
          obtain ⟨m3, m4⟩ := h6 ι0 (n + 1) hA n2
          exact ⟨.cons m1 m3, .cons m2 m4⟩
      · rename_i i
        split at h
        · rename_i hf
          obtain ⟨ys, os, bs, h1, h2, h3, h4, h5, h6⟩ := ih hb (Cm.den_bind h)
          refine ⟨((), ys), os, a :: bs, h1, h2, h3, by simp [h4], le (.same a) h5, fun ι0 n hA hn => ⟨.cons ?_ (h6 ι0 n hA hn).1, (h6 ι0 n hA hn).2⟩⟩
          obtain ⟨b, bs', e, hb', _⟩ := (refsFit_rv hA hf (RVs.cons ha .nil)).uncons
          cases e; exact hb'
        · exact h.elim
theorem comps_rv {ks : List RK} {w : SV Θ} {cs : List (SV Θ)} (h : compsS ks w = some cs) {a : AV} (ha : RV G.cod ι w a) :
    ∃ as, RVs G.cod ι cs as ∧ ∀ (bs : List AV) (vs : List (SV Θ)) (ι0 : Emb), vs.length = ks.length -> as.length = bs.length -> (∀ (i : Nat) (a b : AV), as[i]? = some a -> bs[i]? = some b -> AVle a b) -> RVs G.cod ι0 vs bs -> ∃ b, AVle a b ∧ RV G.cod ι0 (resS vs) b := by
  unfold compsS at h
  split at h
  · cases h
    refine ⟨[a], .cons ha .nil, fun bs vs ι0 hv hl hle hr => ?_⟩
    obtain ⟨v, rfl⟩ := List.length_eq_one_iff.1 hv
    obtain ⟨b, rfl⟩ := List.length_eq_one_iff.1 hl.symm
    exact ⟨b, hle 0 a b rfl rfl, by obtain ⟨x, y, e, h1, _⟩ := hr.uncons; cases e; exact h1⟩
  · rename_i hne
    split at h
    · cases h
      cases ha with
      | tup hlen hh =>
        rename_i as
        refine ⟨as, ⟨hlen, hh⟩, fun bs vs ι0 hv hl hle hr => ⟨.tup bs, .tup hl hle, ?_⟩⟩
        have : resS vs = .tup vs := by
          unfold resS
          split
          · exact absurd (by simpa using hv.symm) (fun h => by obtain ⟨k, hk⟩ := List.length_eq_one_iff.1 h; exact hne k hk)
          · rfl
        rw [this]; exact .tup hr.1 hr.2
    · cases h
def oneE (r : AV) : Env := fun t => if t = 0 then r else .any
theorem RE.one {w : SV Θ} {r : AV} (h : RV G.cod ι w r) : RE G.cod ι [(0, w)] (oneE r) := by
  intro t
  simp only [SEnv.get]
  split
  · rename_i ht; have := nbeq_true ht; subst this; exact h
  · exact .any _
def QE (G : CodG Θ) (A : Base) (ks : List OK) (rs : List RK) (K : RTup Θ rs -> OTup Θ ks -> Prop) (r : AV) (H' : Heap) : Prop :=
  ∃ e1 H1 r2, NormS 1 ⟨oneE r, H'⟩ ⟨e1, H1⟩ ∧ AVle (e1 0) r2 ∧ ∃ y x ι', K y x ∧ RV G.cod ι' (outV G ks rs y) r2 ∧ RH G.cod A ι' (encOut G ks x rs y) H1
theorem upTo_at {n i o : Nat} (h : (upTo n)[i]? = some o) : o = i ∧ i < n := by
  have hi := getElem?_lt h
  rw [upTo_len] at hi
  rw [upTo_get hi] at h
  cases h; exact ⟨rfl, hi⟩
theorem finE_sound (g : CodGOk G) {ks : List OK} {rs : List RK} (hA : A.roots.length <= ks.length) (r : RH G.cod A ι S H) {w : SV Θ} {a : AV} (hw : RV G.cod ι w a) {K : RTup Θ rs -> OTup Θ ks -> Prop}
    (h : (finE G ks rs w S).den fun p => K p.1 p.2) : QE G A ks rs K a H := by
  unfold finE at h
  obtain ⟨ρ', S', e', H1, hn, r1, he1, _, h⟩ := freezeL_sound g.ok (N := 1) (e := oneE a) (H := H) r (RE.one hw) (Cm.den_bind h)
  simp only at h
  split at h
  · rename_i cs hcs
    obtain ⟨as, hras, hfin⟩ := comps_rv hcs (he1 0)
    obtain ⟨y, os, bs, k1, k2, k3, k4, k5, k6⟩ := readRes_rv g r1 hras (Cm.den_bind h)
    obtain ⟨x, ow, m1, m2, m3, m4, m5, m6⟩ := readRoots_rv r1 (Cm.den_bind k1)
    simp only at m1
    split at m1
    · rename_i hnd
      let ps : List (Option Nat) := (upTo ks.length).map some ++ (ow ++ os)
      let ι0 : Emb := ps.map (whereO ι)
      have hps : ∀ (k : Nat) (q : Option Nat), ps[k]? = some q -> ι0[k]? = some (whereO ι q) := fun k q hk => by simp only [ι0]; rw [List.getElem?_map, hk]; rfl
      have hup : ((upTo ks.length).map some).length = ks.length := by rw [List.length_map, upTo_len]
      have hroot : ∀ i, i < ks.length -> ps[i]? = some (some i) := fun i hi => by
        show ((upTo ks.length).map some ++ (ow ++ os))[i]? = _
        rw [List.getElem?_append_left (by rw [hup]; exact hi), List.getElem?_map, upTo_get hi]; rfl
      have hasg : AsgOk ι ι0 (upTo ks.length) := fun i o ho => by
        obtain ⟨rfl, hi⟩ := upTo_at ho
        exact hps _ _ (hroot _ hi)
      have hat : At0 ι ι0 ks.length ow := fun k o hk => by
        refine hps _ _ ?_
        show ((upTo ks.length).map some ++ (ow ++ os))[ks.length + k]? = _
        rw [List.getElem?_append_right (by omega), hup, Nat.add_sub_cancel_left, List.getElem?_append_left (getElem?_lt hk)]; exact hk
      have hat2 : At0 ι ι0 (ks.length + ownsR ks) os := fun k o hk => by
        refine hps _ _ ?_
        show ((upTo ks.length).map some ++ (ow ++ os))[ks.length + ownsR ks + k]? = _
        rw [List.getElem?_append_right (by omega), hup, List.getElem?_append_right (by omega)]
        rw [show ks.length + ownsR ks + k - ks.length - ow.length = k by omega]; exact hk
      obtain ⟨n1, n2⟩ := k6 ι0 _ hasg hat2
      obtain ⟨n3, n4⟩ := m6 ι0 _ hasg hat
      have hfits : Fits G.cod ι (ps.map (whereO ι)) H1 (encOut G ks x rs y) ps := n3.app (n4.app n2)
      obtain ⟨b, hb1, hb2⟩ := hfin bs _ ι0 encRes_len k4 k5 n1
      refine ⟨e', H1, b, hn, hb1, y, x, ι0, m1, hb2, ?_⟩
      have hown : ∀ (i p : Nat), (ps.map (whereO ι))[i]? = some (some p) -> ∃ o : Nat, ι[o]? = some (some p) := by
        intro i p hi
        rw [List.getElem?_map, Option.map_eq_some_iff] at hi
        obtain ⟨q, _, h2⟩ := hi
        cases q with
        | none => cases h2
        | some o =>
          refine ⟨o, ?_⟩
          simp only [whereO] at h2
          cases h3 : ι[o]? with
          | none => rw [h3] at h2; cases h2
          | some y => rw [h3] at h2; simp at h2; rw [h2]
      have hrts : ∀ (i : Nat) (z : Option Nat), A.roots[i]? = some z -> (ps.map (whereO ι))[i]? = some z := by
        intro i z hz
        have hi : i < ks.length := by have := getElem?_lt hz; omega
        have := r1.rts i z hz
        rw [show (ps.map (whereO ι))[i]? = some (whereO ι (some i)) from hps i _ (hroot i hi)]
        simp [whereO, this]
      refine enc_RH r1 hfits (fun o ho => ?_) hnd (fun i p hi => ?_) r1.big r1.base hrts
      · rcases List.mem_append.1 ho with h1 | h1
        · obtain ⟨o', h2, h3⟩ := List.mem_map.1 h1
          cases h3; exact m5 o h2
        · rcases List.mem_append.1 h1 with h2 | h2
          · exact m4 o h2
          · exact k3 o h2
      · obtain ⟨o, ho⟩ := hown i p hi
        exact r1.own o p ho
    · exact m1.elim
  · exact h.elim
end
end Go.Ab
/-
  Functions that change what they are handed, as Lean functions.
-/
namespace Go.Ab
open Go Go.RowKit
set_option linter.unusedVariables false
set_option linter.unusedSimpArgs false
variable {Θ : Nat -> Type}
noncomputable def lfE (G : CodG Θ) (ks : List OK) (rs : List RK) (hs : List (List Nat × Hint)) : Lf Θ -> Cm (Trip Θ ⊕ (RTup Θ rs × OTup Θ ks))
  | .fin w S => (finE G ks rs w S).map .inr
  | .at fs ρ S => match hintGet hs (sigOf fs) with
    | some h => match Nat.beq h.nr ks.length with
      | true => (canon h fs ρ S).map .inl
      | false => .no
    | none => .ret (.inl (fs, ρ, S))
noncomputable def headE (G : CodG Θ) (T : List (Nat × FI)) (K : KnownF Θ) (rr : List ARes) (ks : List OK) (rs : List RK) (hs : List (List Nat × Hint)) (n : Nat) (st : Trip Θ) : Cm (Trip Θ ⊕ (RTup Θ rs × OTup Θ ks)) :=
  match st.1 with
  | .lp N a :: fs => (run G.cod T K rr n (.ex N a) (.lp N a :: fs) st.2.1 st.2.2).bind (lfE G ks rs hs)
  | _ => .no
noncomputable def startE (G : CodG Θ) (T : List (Nat × FI)) (K : KnownF Θ) (x : FI) (ks : List OK) (rs : List RK) (hs : List (List Nat × Hint)) (n : Nat) (args : List (SV Θ)) (S : SHeap Θ) : Cm (Trip Θ ⊕ (RTup Θ rs × OTup Θ ks)) :=
  (run G.cod T K x.rs n (.ex x.n x.code) [] (argsEnv args 0) S).bind (lfE G ks rs hs)
section
variable {G : CodG Θ} {P : Program} {KN : KnownF Θ} {T : List (Nat × FI)} {hs : List (List Nat × Hint)} {rr : List ARes} {ks : List OK} {rs : List RK} {K : RTup Θ rs -> OTup Θ ks -> Prop}
def UWE (P : Program) (G : CodG Θ) (ks : List OK) (rs : List RK) (rr : List ARes) (K : RTup Θ rs -> OTup Θ ks -> Prop) (fs : List (Fr Θ)) (ρ : SEnv Θ) (S : SHeap Θ) : Prop :=
  ∀ A : Base, A.roots.length <= ks.length -> CW P G.cod A rr (QE G A ks rs K) fs ρ S
def TrE (P : Program) (G : CodG Θ) (ks : List OK) (rs : List RK) (rr : List ARes) (K : RTup Θ rs -> OTup Θ ks -> Prop) : Trip Θ ⊕ (RTup Θ rs × OTup Θ ks) -> Prop
  | .inl t => UWE P G ks rs rr K t.1 t.2.1 t.2.2
  | .inr v => K v.1 v.2
theorem lfE_sound (g : CodGOk G) {l : Lf Θ} (h : (lfE G ks rs hs l).den (TrE P G ks rs rr K)) {A : Base} (hA : A.roots.length <= ks.length) : LfP P G.cod A rr (QE G A ks rs K) l := by
  cases l with
  | fin w S =>
    have h := (Cm.den_map (f := Sum.inr) (K := TrE P G ks rs rr K)).1 h
    exact fun ι r H hr hh => finE_sound g hA hh hr h
  | «at» fs ρ S =>
    simp only [lfE] at h
    split at h
    · rename_i hh
      split at h
      · rename_i hn
        have h := (Cm.den_map (f := Sum.inl) (K := TrE P G ks rs rr K)).1 h
        have := nbeq_true hn
        exact canon_sound g.ok (by omega) (Cm.den_mono (fun r h => h A hA) h)
      · exact h.elim
    · exact h A hA
theorem headE_sound (g : CodGOk G) (ko : KnownOk P G.cod KN) (hT : ∀ p ∈ T, Knows P p.1 p.2) {n : Nat} {st : Trip Θ} (h : (headE G T KN rr ks rs hs n st).den (TrE P G ks rs rr K)) : UWE P G ks rs rr K st.1 st.2.1 st.2.2 := by
  obtain ⟨fs, ρ, S⟩ := st
  unfold headE at h
  split at h
  · rename_i N a fs' e
    simp only at e h ⊢
    rw [e]
    exact fun A hA => CW.round g.ok ko hT n (Cm.den_mono (fun l h => lfE_sound g h hA) (Cm.den_bind h))
  · exact h.elim
theorem acalls_QE {f : FuncId} {as : List AV} {H : Heap} {A : Base} (h : ACalls P f as H (QE G A ks rs K)) :
    ACalls P f as H fun r H' => ∃ y x' ι', K y x' ∧ RV G.cod ι' (outV G ks rs y) r ∧ RH G.cod A ι' (encOut G ks x' rs y) H' := by
  refine ⟨h.ok, fun B β w cs hsim hl ha => Calls.mono (h.go B β w cs hsim hl ha) ?_⟩
  rintro e w' ⟨r, c, β', H', rfl, ⟨e1, H1, r2, hn, hle, hq⟩, h2, h3, h4⟩
  have hrel : Rel 1 B β' ⟨oneE r, H'⟩ { tmps := #[c], defers := [] } w' := by
    refine ⟨h3, fun t => ?_, rfl, rfl⟩
    cases t with
    | zero => simpa [oneE] using h2
    | succ t => simp only [oneE]; rw [if_neg (by omega)]; exact .any _
  obtain ⟨β1, k1, k2⟩ := hn B β' _ w' hrel
  have k3 := k1.rep 0
  have : ((#[c] : Array Value).getD 0 undef) = c := rfl
  rw [this] at k3
  exact ⟨r2, c, β1, H1, rfl, hq, hle.rep k3, k1.sim, h4.trans k2⟩
theorem ECall.start (g : CodGOk G) (ko : KnownOk P G.cod KN) (hT : ∀ p ∈ T, Knows P p.1 p.2) {f : Nat} {x : FI} (hk : Knows P f x) {args : List (SV Θ)} (hl : Nat.ble args.length x.n = true) {z : OTup Θ ks} {n : Nat}
    (h : (startE G T KN x ks rs hs n args (encH ks z)).den (TrE P G ks rs x.rs K)) : ECall P G f ks args z rs K := by
  intro A ι as H hA hargs r
  refine acalls_QE ?_
  have hl' := Nat.le_of_ble_eq_true hl
  have h1 := Cm.den_mono (fun l h => lfE_sound g (l := l) h hA) (Cm.den_bind (f := lfE G ks rs hs) h)
  have h2 := run_sound (A := A) (rs0 := x.rs) (Qf := QE G A ks rs K) g.ok ko hT n _ _ _ _ h1 ι ⟨envOf as, H⟩ _ .nil (RE.args hargs) r
  exact callG (H := H) hk (by rw [<- hargs.1]; exact hl') h2
variable {L : Type} {m : L -> Trip Θ} {R : Type} {dec : R -> RTup Θ rs × OTup Θ ks} {gg : L -> Cm (L ⊕ R)}
theorem loopE_sound (g : CodGOk G) (ko : KnownOk P G.cod KN) (hT : ∀ p ∈ T, Knows P p.1 p.2) {n : Nat} (hE : ∀ s, headE G T KN rr ks rs hs n (m s) = (gg s).map (Sum.map m dec)) {s : L} {r : R} (h : loopO gg s = some r) :
    UWE P G ks rs rr (fun y x => (y, x) = dec r) (m s).1 (m s).2.1 (m s).2.2 := by
  obtain ⟨k, hk⟩ := iter_some.1 h
  clear h
  induction k generalizing s with
  | zero => cases hk
  | succ k ih =>
    refine headE_sound g ko hT (n := n) (hs := hs) ?_
    rw [hE, Cm.den_map]
    simp only [iterN] at hk
    split at hk
    · cases hk
    · rename_i s' hs'
      exact Cm.den_opt hs' (ih hk)
    · rename_i r' hs'
      cases hk
      exact Cm.den_opt hs' rfl
theorem runE_sound (g : CodGOk G) (ko : KnownOk P G.cod KN) (hT : ∀ p ∈ T, Knows P p.1 p.2) {n : Nat} (hE : ∀ s, headE G T KN rr ks rs hs n (m s) = (gg s).map (Sum.map m dec))
    {f : Nat} {x : FI} (hk : Knows P f x) (hx : x.rs = rr) {args : List (SV Θ)} (hl : Nat.ble args.length x.n = true) {z : OTup Θ ks} {s0 : Cm (L ⊕ R)}
    (hS : startE G T KN x ks rs hs n args (encH ks z) = s0.map (Sum.map m dec)) {r : R} (h : runO gg s0 = some r) : ECall P G f ks args z rs (fun y x => (y, x) = dec r) := by
  subst hx
  refine ECall.start g ko hT hk hl (n := n) (hs := hs) ?_
  rw [hS, Cm.den_map]
  simp only [runO, Option.bind_eq_some_iff] at h
  obtain ⟨y, hy, h⟩ := h
  refine Cm.den_opt hy ?_
  cases y with
  | inl s => exact loopE_sound g ko hT hE h
  | inr r' =>
    have : r' = r := by simpa using h
    subst this; rfl
end
end Go.Ab
/-
  A call that changes what it is handed, at the place where it is called.
-/
namespace Go.Ab
open Go Go.RowKit
set_option linter.unusedVariables false
set_option linter.unusedSimpArgs false
variable {Θ : Nat -> Type}
def SV.mapO (τ : List Nat) : SV Θ -> SV Θ
  | .sl c o off len cap => match sNth τ o with
    | some j => .sl c j off len cap
    | none => .any
  | .ptr o off => match sNth τ o with
    | some j => .ptr j off
    | none => .any
  | .mp o => match sNth τ o with
    | some j => .mp j
    | none => .any
  | .agg cs => .agg (mapL τ cs)
  | .tup cs => .tup (mapL τ cs)
  | .fn f cs => .fn f (mapL τ cs)
  | .i k x => .i k x
  | .b x => .b x
  | .kb x => .kb x
  | .s l => .s l
  | .v x => .v x
  | .lst c xs => .lst c xs
  | .z0 => .z0
  | _ => .any
where
  mapL (τ : List Nat) : List (SV Θ) -> List (SV Θ)
  | [] => []
  | x :: xs => x.mapO τ :: mapL τ xs
def SO.mapO (τ : List Nat) : SO Θ -> SO Θ
  | .box cs => .box (SV.mapO.mapL τ cs)
  | .arr c xs => .arr c xs
  | .map c d es => .map c d es
  | .hole c xs j cs => .hole c xs j (SV.mapO.mapL τ cs)
  | .raw c xs => .raw c xs
  | _ => .dead
theorem mapL_map (τ : List Nat) (xs : List (SV Θ)) : SV.mapO.mapL τ xs = xs.map (SV.mapO τ) := by
  induction xs with
  | nil => rfl
  | cons x xs ih => simp [SV.mapO.mapL, ih]
section
variable {C : Cod Θ} {ι ι2 : Emb}
theorem RV.mapO {τ : List Nat} (hτ : ∀ (o j : Nat) (x : Option Nat), τ[o]? = some j -> ι[o]? = some x -> ι2[j]? = some x) {v : SV Θ} {a : AV} (h : RV C ι v a) : RV C ι2 (v.mapO τ) a := by
  induction h with
  | any a => exact .any a
  | i k x => exact .i k x
  | b x => exact .b x
  | kb x => exact .kb x
  | s l => exact .s l
  | v x => exact .v x
  | @agg cs as hl _ ih =>
    simp only [SV.mapO, mapL_map]
    refine .agg (by simp [hl]) fun i x a hx ha => ?_
    rw [List.getElem?_map, Option.map_eq_some_iff] at hx
    obtain ⟨y, hy, rfl⟩ := hx
    exact ih i y a hy ha
  | @tup cs as hl _ ih =>
    simp only [SV.mapO, mapL_map]
    refine .tup (by simp [hl]) fun i x a hx ha => ?_
    rw [List.getElem?_map, Option.map_eq_some_iff] at hx
    obtain ⟨y, hy, rfl⟩ := hx
    exact ih i y a hy ha
  | lst c xs => exact .lst c xs
  | rp _ _ => exact .any _
  | sl ho hk hc =>
    simp only [SV.mapO]
    split
    · rename_i j hj; rw [nth_get] at hj; exact .sl (hτ _ _ _ hj ho) hk hc
    · exact .any _
  | slNil ho hc ha =>
    simp only [SV.mapO]
    split
    · rename_i j hj; rw [nth_get] at hj; exact .slNil (hτ _ _ _ hj ho) hc ha
    · exact .any _
  | z0 => exact .z0
  | ptr ho =>
    simp only [SV.mapO]
    split
    · rename_i j hj; rw [nth_get] at hj; exact .ptr (hτ _ _ _ hj ho)
    · exact .any _
  | eptr ho => exact .any _
  | @fn f cs as hl _ ih =>
    simp only [SV.mapO, mapL_map]
    refine .fn (by simp [hl]) fun i x a hx ha => ?_
    rw [List.getElem?_map, Option.map_eq_some_iff] at hx
    obtain ⟨y, hy, rfl⟩ := hx
    exact ih i y a hy ha
  | mp ho =>
    simp only [SV.mapO]
    split
    · rename_i j hj; rw [nth_get] at hj; exact .mp (hτ _ _ _ hj ho)
    · exact .any _
  | ifc _ _ => exact .any _
  | self0 => exact .any _
  | self1 _ => exact .any _
  | sd0 _ => exact .any _
  | sd1 _ => exact .any _
  | bl0 _ => exact .any _
  | bl1 _ _ => exact .any _
theorem RObj.mapO {τ : List Nat} (hτ : ∀ (o j : Nat) (x : Option Nat), τ[o]? = some j -> ι[o]? = some x -> ι2[j]? = some x) {v : SO Θ} {y : AObj} (h : RObj C ι v y) : RObj C ι2 (v.mapO τ) y := by
  cases h with
  | @box cs as hb =>
    simp only [SO.mapO, mapL_map]
    refine .box ⟨by simp [hb.1], fun i x a hx ha => ?_⟩
    rw [List.getElem?_map, Option.map_eq_some_iff] at hx
    obtain ⟨y, hy, rfl⟩ := hx
    exact (hb.2 i y a hy ha).mapO hτ
  | arr c xs ext => exact .arr c xs ext
  | map c d es => exact .map c d es
  | raw hx ext h => exact .raw hx ext h
  | @hole c xs j cs ins hj hi hl ext =>
    simp only [SO.mapO, mapL_map]
    refine .hole hj ⟨by simp [hi.1], fun i x a hx ha => ?_⟩ (by simp [hl]) ext
    rw [List.getElem?_map, Option.map_eq_some_iff] at hx
    obtain ⟨y, hy, rfl⟩ := hx
    exact (hi.2 i y a hy ha).mapO hτ
end
def replS (asg : List Nat) (roots : List (SO Θ)) (ow : List (Option Nat)) : Nat -> SHeap Θ -> SHeap Θ
  | _, [] => []
  | i, x :: S => (match idxOf asg i 0 with
    | some k => match sNth roots k with
      | some z => z
      | none => .dead
    | none => match optMem i ow with
      | true => .dead
      | false => x) :: replS asg roots ow (i + 1) S
theorem replS_len {asg : List Nat} {roots : List (SO Θ)} {ow : List (Option Nat)} : ∀ {S : SHeap Θ} {i : Nat}, (replS asg roots ow i S).length = S.length := by
  intro S
  induction S with
  | nil => intro i; rfl
  | cons x S ih => intro i; simp [replS, ih]
theorem replS_get {asg : List Nat} {roots : List (SO Θ)} {ow : List (Option Nat)} : ∀ {S : SHeap Θ} {i o : Nat} {x : SO Θ}, (replS asg roots ow i S)[o]? = some x ->
    (∃ k : Nat, asg[k]? = some (i + o) ∧ (roots[k]? = some x ∨ x = .dead)) ∨ (idxOf asg (i + o) 0 = none ∧ ((optMem (i + o) ow = true ∧ x = .dead) ∨ (optMem (i + o) ow = false ∧ S[o]? = some x))) := by
  intro S
  induction S with
  | nil => intro i o x h; simp [replS] at h
  | cons y S ih =>
    intro i o x h
    cases o with
    | zero =>
      simp only [replS, List.getElem?_cons_zero, Option.some.injEq] at h
      rw [Nat.add_zero]
      split at h
      · rename_i k hk
        obtain ⟨_, h2⟩ := idxOf_get hk
        left
        refine ⟨k, by simpa using h2, ?_⟩
        split at h
        · rename_i z hz; rw [nth_get] at hz; subst h; exact .inl hz
        · exact .inr h.symm
      · rename_i hk
        right
        refine ⟨hk, ?_⟩
        split at h
        · rename_i hm; exact .inl ⟨hm, h.symm⟩
        · rename_i hm; exact .inr ⟨hm, by simp [h]⟩
    | succ o =>
      simp only [replS, List.getElem?_cons_succ] at h
      have := ih h
      rw [show i + 1 + o = i + (o + 1) by omega] at this
      simpa using this
def upFrom (n : Nat) : Nat -> List Nat
  | 0 => []
  | k + 1 => n :: upFrom (n + 1) k
theorem upFrom_get : ∀ {k n i j : Nat}, (upFrom n k)[i]? = some j -> j = n + i ∧ i < k := by
  intro k
  induction k with
  | zero => intro n i j h; simp [upFrom] at h
  | succ k ih =>
    intro n i j h
    cases i with
    | zero => simp [upFrom] at h; exact ⟨h.symm, by omega⟩
    | succ i => have := ih (n := n + 1) (by simpa [upFrom] using h); omega
def behindS (asg : List Nat) (ow : List (Option Nat)) (out : SHeap Θ) (S : SHeap Θ) : SHeap Θ :=
  let τ := asg ++ upFrom S.length (out.length - asg.length)
  replS asg ((out.take asg.length).map (SO.mapO τ)) ow 0 S ++ (out.drop asg.length).map (SO.mapO τ)
def tagFree (ps : List (Option Nat)) : SHeap Θ -> Bool
  | [] => true
  | x :: S => match x with
    | .tag q _ => match optMem q ps with
      | true => false
      | false => tagFree ps S
    | _ => tagFree ps S
theorem tagFree_get {ps : List (Option Nat)} : ∀ {S : SHeap Θ}, tagFree ps S = true -> ∀ (j q : Nat) (t : TypeId), S[j]? = some (.tag q t) -> some q ∉ ps := by
  intro S
  induction S with
  | nil => intro _ j q t h; simp at h
  | cons x S ih =>
    intro h j q t hj hm
    cases j with
    | zero =>
      simp at hj
      subst hj
      simp only [tagFree, optMem_of hm] at h
      cases h
    | succ j =>
      refine ih ?_ j q t (by simpa using hj) hm
      simp only [tagFree] at h
      split at h
      · split at h
        · cases h
        · exact h
      · exact h
section
variable {C : Cod Θ} {ι ι' : Emb} {A : Base} {S out : SHeap Θ} {H H' : Heap} {asg : List Nat} {ow : List (Option Nat)}
def baseOf (ι : Emb) (H : Heap) (asg : List Nat) (ow : List (Option Nat)) : Base :=
  ⟨fun p => ∃ o : Nat, some o ∈ asg.map some ++ ow ∧ ι[o]? = some (some p), H, asg.map fun o => whereO ι (some o)⟩
theorem behind_RH (r : RH C A ι S H) (hlive : ∀ o, some o ∈ asg.map some ++ ow -> LiveO S o) (hnd : optNodup (asg.map some ++ ow) = true) (htag : tagFree (asg.map some ++ ow) S = true)
    (r' : RH C (baseOf ι H asg ow) ι' out H') (hlen : asg.length <= out.length) (hdead : ∀ (i : Nat) (x : SO Θ), out[i]? = some x -> (∀ q t, x ≠ .tag q t)) :
    RH C A (ι ++ ι'.drop asg.length) (behindS asg ow out S) H' ∧ ∀ {v : SV Θ} {a : AV}, RV C ι' v a -> RV C (ι ++ ι'.drop asg.length) (v.mapO (asg ++ upFrom S.length (out.length - asg.length))) a := by
  have hl' : ι'.length = out.length := r'.len
  have asgGet : ∀ {k o : Nat}, asg[k]? = some o -> ι'[k]? = some (whereO ι (some o)) := by
    intro k o h
    exact r'.rts k _ (by simp [baseOf, h])
  have inps : ∀ {k o : Nat}, asg[k]? = some o -> some o ∈ asg.map some ++ ow := fun h => List.mem_append_left _ (List.mem_map.2 ⟨_, List.mem_of_getElem? h, rfl⟩)
  have asgLt : ∀ {k o : Nat}, asg[k]? = some o -> o < S.length := by
    intro k o h
    obtain ⟨x, hx, _⟩ := hlive o (inps h)
    exact getElem?_lt hx
  have asgι : ∀ {k o : Nat}, asg[k]? = some o -> ι[o]? = some (whereO ι (some o)) := by
    intro k o h
    have := asgLt h
    have h1 : ι[o]? = some (ι[o]'(by rw [r.len]; exact this)) := by simp [r.len, this]
    rw [h1]; simp [whereO, h1]
  have hτ : ∀ (o j : Nat) (x : Option Nat), (asg ++ upFrom S.length (out.length - asg.length))[o]? = some j -> ι'[o]? = some x -> (ι ++ ι'.drop asg.length)[j]? = some x := by
    intro o j x h1 h2
    rcases Nat.lt_or_ge o asg.length with h | h
    · rw [List.getElem?_append_left h] at h1
      have h3 := asgι h1
      rw [List.getElem?_append_left (getElem?_lt h3), h3]
      rw [asgGet h1] at h2; exact h2
    · rw [List.getElem?_append_right h] at h1
      obtain ⟨rfl, h3⟩ := upFrom_get h1
      rw [List.getElem?_append_right (by rw [r.len]; omega), r.len, List.getElem?_drop]
      rw [show asg.length + (S.length + (o - asg.length) - S.length) = o by omega]
      exact h2
  refine ⟨?_, fun h => h.mapO hτ⟩
  have hrl : (replS asg ((out.take asg.length).map (SO.mapO (asg ++ upFrom S.length (out.length - asg.length)))) ow 0 S).length = S.length := replS_len
  -- the two parts of memory
  have splitI : ∀ {o : Nat} {q : Option Nat}, (ι ++ ι'.drop asg.length)[o]? = some q -> (o < S.length ∧ ι[o]? = some q) ∨ (∃ i : Nat, asg.length <= i ∧ o = S.length + (i - asg.length) ∧ ι'[i]? = some q) := by
    intro o q h
    rcases Nat.lt_or_ge o S.length with h1 | h1
    · rw [List.getElem?_append_left (by rw [r.len]; exact h1)] at h; exact .inl ⟨h1, h⟩
    · rw [List.getElem?_append_right (by rw [r.len]; exact h1), r.len, List.getElem?_drop] at h
      exact .inr ⟨asg.length + (o - S.length), by omega, by omega, h⟩
  have splitS : ∀ {o : Nat} {x : SO Θ}, (behindS asg ow out S)[o]? = some x ->
      (o < S.length ∧ ((∃ k : Nat, asg[k]? = some o ∧ ((∃ z : SO Θ, out[k]? = some z ∧ x = z.mapO (asg ++ upFrom S.length (out.length - asg.length))) ∨ x = .dead)) ∨
        (some o ∉ asg.map some ∧ ((some o ∈ ow ∧ x = .dead) ∨ (some o ∉ ow ∧ S[o]? = some x))))) ∨
      (∃ (i : Nat) (z : SO Θ), asg.length <= i ∧ o = S.length + (i - asg.length) ∧ out[i]? = some z ∧ x = z.mapO (asg ++ upFrom S.length (out.length - asg.length))) := by
    intro o x h
    unfold behindS at h
    simp only at h
    rcases Nat.lt_or_ge o S.length with h1 | h1
    · rw [List.getElem?_append_left (by rw [hrl]; exact h1)] at h
      left
      refine ⟨h1, ?_⟩
      rcases replS_get h with ⟨k, k1, k2⟩ | ⟨k1, k2⟩
      · left
        rw [Nat.zero_add] at k1
        refine ⟨k, k1, ?_⟩
        rcases k2 with k2 | k2
        · rw [List.getElem?_map, Option.map_eq_some_iff] at k2
          obtain ⟨z, hz, rfl⟩ := k2
          rw [List.getElem?_take_of_lt (getElem?_lt k1)] at hz
          exact .inl ⟨z, hz, rfl⟩
        · exact .inr k2
      · right
        rw [Nat.zero_add] at k1 k2
        have hno := idxOf_none k1
        refine ⟨fun hm => ?_, ?_⟩
        · obtain ⟨o', h2, h3⟩ := List.mem_map.1 hm
          cases h3; exact hno h2
        · rcases k2 with ⟨k2, k3⟩ | ⟨k2, k3⟩
          · left
            refine ⟨?_, k3⟩
            clear hlive hnd htag r' inps asgLt asgι hτ hrl splitI h k1 hno asgGet
            induction ow with
            | nil => simp [optMem] at k2
            | cons y ys ih =>
              simp only [optMem] at k2
              split at k2
              · exact List.mem_cons_of_mem _ (ih k2)
              · split at k2
                · rename_i hp; have := nbeq_true hp; subst this; exact List.mem_cons_self
                · exact List.mem_cons_of_mem _ (ih k2)
          · right
            exact ⟨fun hm => (by rw [optMem_of hm] at k2; cases k2), k3⟩
    · rw [List.getElem?_append_right (by rw [hrl]; exact h1), hrl, List.getElem?_map, Option.map_eq_some_iff] at h
      obtain ⟨z, hz, rfl⟩ := h
      rw [List.getElem?_drop] at hz
      exact .inr ⟨asg.length + (o - S.length), z, by omega, by omega, hz, rfl⟩
  have hbase : ∀ {o p : Nat}, ι[o]? = some (some p) -> (∃ x, S[o]? = some x ∧ x ≠ .dead) -> some o ∉ asg.map some ++ ow -> H'[p]? = H[p]? := by
    intro o p ho hx hn
    refine r'.base p (r.lt o p ho) ?_
    rintro ⟨o', h1, h2⟩
    rcases r.inj o o' p ho h2 with h | h | h
    · subst h; exact hn h1
    · obtain ⟨x, k1, k2⟩ := hx; rw [k1] at h; exact k2 (Option.some.inj h)
    · obtain ⟨x, k1, k2, _⟩ := hlive o' h1; rw [k1] at h; exact k2 (Option.some.inj h)
  have newP : ∀ {i p : Nat}, ι'[i]? = some (some p) -> H.length <= p ∨ ∃ o : Nat, some o ∈ asg.map some ++ ow ∧ ι[o]? = some (some p) := fun h => r'.own _ _ h
  have liveN : ∀ {o : Nat}, S[o]? = some .dead -> some o ∉ asg.map some ++ ow := fun h hm => by
    obtain ⟨x, k1, k2, _⟩ := hlive _ hm
    rw [k1] at h; exact k2 (Option.some.inj h)
  have sDead : ∀ {o : Nat}, S[o]? = some .dead -> (behindS asg ow out S)[o]? = some .dead := by
    intro o h
    have hlt := getElem?_lt h
    have hnot := liveN h
    obtain ⟨x, hx⟩ : ∃ x, (behindS asg ow out S)[o]? = some x := by
      refine ⟨_, List.getElem?_eq_getElem ?_⟩
      unfold behindS; simp only [List.length_append, hrl]; omega
    rcases splitS hx with ⟨_, ⟨k, k1, _⟩ | ⟨_, ⟨k1, _⟩ | ⟨_, k2⟩⟩⟩ | ⟨i, z, _, k2, _⟩
    · exact absurd (inps k1) hnot
    · exact absurd (List.mem_append_right _ k1) hnot
    · rw [h] at k2; rw [hx]; exact k2.symm
    · omega
  have outDead : ∀ {i : Nat}, asg.length <= i -> out[i]? = some .dead -> (behindS asg ow out S)[S.length + (i - asg.length)]? = some .dead := by
    intro i h1 h2
    unfold behindS
    simp only
    rw [List.getElem?_append_right (by rw [hrl]; omega), hrl, List.getElem?_map, List.getElem?_drop, show asg.length + (S.length + (i - asg.length) - S.length) = i by omega, h2]
    rfl
  have cross : ∀ {o i p : Nat}, o < S.length -> ι[o]? = some (some p) -> asg.length <= i -> ι'[i]? = some (some p) -> (behindS asg ow out S)[o]? = some .dead ∨ (behindS asg ow out S)[S.length + (i - asg.length)]? = some .dead := by
    intro o i p hlt ho hi hp
    obtain ⟨x, hx⟩ : ∃ x, (behindS asg ow out S)[o]? = some x := by
      refine ⟨_, List.getElem?_eq_getElem ?_⟩
      unfold behindS; simp only [List.length_append, hrl]; omega
    rcases splitS hx with ⟨_, ⟨k, k1, k2⟩ | ⟨k1, ⟨_, k2⟩ | ⟨k2, k3⟩⟩⟩ | ⟨i, z, _, k2, _⟩
    · rcases k2 with ⟨z, k2, k3⟩ | k2
      · have e1 := asgGet k1
        have e2 := asgι k1
        rw [ho] at e2
        rw [<- Option.some.inj e2] at e1
        rcases r'.inj k i p e1 hp with h | h | h
        · have := getElem?_lt k1; omega
        · rw [k2] at h; rw [hx, k3, Option.some.inj h]; exact .inl rfl
        · exact .inr (outDead hi h)
      · rw [hx, k2]; exact .inl rfl
    · rw [hx, k2]; exact .inl rfl
    · left
      rcases newP hp with h | ⟨o', h1, h2⟩
      · have := r.lt o p ho; omega
      · rcases r.inj o o' p ho h2 with h | h | h
        · subst h
          rcases List.mem_append.1 h1 with h | h
          · exact absurd h k1
          · exact absurd h k2
        · exact sDead h
        · exact absurd h1 (liveN h)
    · omega
  have tagKeep : ∀ {p : Nat} {t : TypeId}, tagged H p t = true -> tagged H' p t = true := by
    intro p t h
    obtain ⟨i, hi⟩ := tagged_get' h
    refine tagged_of (i := i) ?_
    rw [r'.base i (getElem?_lt hi) ?_]
    · exact hi
    rintro ⟨o, h1, h2⟩
    obtain ⟨x, k1, k2, k3⟩ := hlive o h1
    rcases r.obj o i x h2 k1 with h | ⟨y, h3, h4⟩
    · exact k2 h
    · have h3 : H[i]? = some y := h3
      rw [hi] at h3
      cases h3
      cases h4
  constructor
  · simp only [behindS, List.length_append, hrl, r.len, List.length_drop, List.length_map, hl']
  · intro o p h
    rcases splitI h with ⟨_, h⟩ | ⟨i, _, _, h⟩
    · exact Nat.lt_of_lt_of_le (r.lt o p h) r'.big
    · exact r'.lt _ _ h
  · intro o o' p h h'
    rcases splitI h with ⟨l1, g⟩ | ⟨i, l1, e1, g⟩
    · rcases splitI h' with ⟨l2, g'⟩ | ⟨i', l2, e2, g'⟩
      · rcases r.inj o o' p g g' with k | k | k
        · exact .inl k
        · exact .inr (.inl (sDead k))
        · exact .inr (.inr (sDead k))
      · subst e2; exact .inr (cross l1 g l2 g')
    · rcases splitI h' with ⟨l2, g'⟩ | ⟨i', l2, e2, g'⟩
      · subst e1; exact .inr (cross l2 g' l1 g).symm
      · subst e1 e2
        rcases r'.inj i i' p g g' with k | k | k
        · exact .inl (by rw [k])
        · exact .inr (.inl (outDead l1 k))
        · exact .inr (.inr (outDead l2 k))
  · intro o p x h hx
    rcases splitI h with ⟨l1, h⟩ | ⟨i, l1, e1, h⟩
    · rcases splitS hx with ⟨_, ⟨k, k1, k2⟩ | ⟨k1, ⟨_, k2⟩ | ⟨k2, k3⟩⟩⟩ | ⟨i, z, _, k2, _⟩
      · rcases k2 with ⟨z, k2, k3⟩ | k2
        · have e1 := asgGet k1
          have e2 := asgι k1
          rw [h] at e2
          rw [<- Option.some.inj e2] at e1
          rcases r'.obj k p z e1 k2 with h5 | ⟨y, h5, h6⟩
          · left; rw [k3, h5]; rfl
          · right; rw [k3]; exact ⟨y, h5, h6.mapO hτ⟩
        · exact .inl k2
      · exact .inl k2
      · by_cases hd : x = .dead
        · exact .inl hd
        · rcases r.obj o p x h k3 with h5 | ⟨y, h5, h6⟩
          · exact .inl h5
          · refine .inr ⟨y, ?_, h6.mono _⟩
            rw [hbase h ⟨x, k3, hd⟩ (fun hm => by rcases List.mem_append.1 hm with hm | hm; exact k1 hm; exact k2 hm)]
            exact h5
      · omega
    · rcases splitS hx with ⟨k1, _⟩ | ⟨i', z, l2, e2, k2, k3⟩
      · omega
      · have : i' = i := by omega
        subst this
        rcases r'.obj i' p z h k2 with h5 | ⟨y, h5, h6⟩
        · left; rw [k3, h5]; rfl
        · right; rw [k3]; exact ⟨y, h5, h6.mapO hτ⟩
  · intro o x h hx
    rcases splitI h with ⟨l1, h⟩ | ⟨i, l1, e1, h⟩
    · rcases splitS hx with ⟨_, ⟨k, k1, k2⟩ | ⟨k1, ⟨_, k2⟩ | ⟨k2, k3⟩⟩⟩ | ⟨i, z, _, k2, _⟩
      · rcases k2 with ⟨z, k2, k3⟩ | k2
        · have e1 := asgGet k1
          have e2 := asgι k1
          rw [h] at e2
          rw [<- Option.some.inj e2] at e1
          rcases r'.nil k z e1 k2 with h5 | ⟨c, h5⟩ | ⟨q, t, h5⟩
          · left; rw [k3, h5]; rfl
          · right; left; exact ⟨c, by rw [k3, h5]; rfl⟩
          · exact absurd h5 (hdead k z k2 q t)
        · exact .inl k2
      · exact .inl k2
      · exact r.nil o x h k3
      · omega
    · rcases splitS hx with ⟨k1, _⟩ | ⟨i', z, l2, e2, k2, k3⟩
      · omega
      · have : i' = i := by omega
        subst this
        rcases r'.nil i' z h k2 with h5 | ⟨c, h5⟩ | ⟨q, t, h5⟩
        · left; rw [k3, h5]; rfl
        · right; left; exact ⟨c, by rw [k3, h5]; rfl⟩
        · exact absurd h5 (hdead i' z k2 q t)
  · intro j q t h
    have noTag : ∀ (z : SO Θ) (τ : List Nat), SO.tag q t ≠ z.mapO τ := by
      intro z τ hz; cases z <;> simp [SO.mapO] at hz
    rcases splitS h with ⟨_, ⟨k, k1, k2⟩ | ⟨k1, ⟨_, k2⟩ | ⟨k2, k3⟩⟩⟩ | ⟨i, z, _, _, _, k3⟩
    · rcases k2 with ⟨z, _, k3⟩ | k2
      · exact absurd k3 (noTag _ _)
      · cases k2
    · cases k2
    · obtain ⟨h1, h2⟩ := r.tg j q t k3
      have hq := tagFree_get htag j q t k3
      refine ⟨by simp only [behindS, List.length_append, hrl]; omega, fun p hp => ?_⟩
      rcases splitI hp with ⟨_, hp⟩ | ⟨i, _, _, _⟩
      · refine ⟨tagKeep (h2 p hp).1, fun c xs hs => ?_⟩
        rcases splitS hs with ⟨_, ⟨k, k1, _⟩ | ⟨_, ⟨k1, _⟩ | ⟨_, k4⟩⟩⟩ | ⟨i, z, _, k4, _⟩
        · exact absurd (inps k1) hq
        · exact absurd (List.mem_append_right _ k1) hq
        · exact (h2 p hp).2 c xs k4
        · omega
      · omega
    · exact absurd k3 (noTag _ _)
  · intro o p h
    rcases splitI h with ⟨l1, h⟩ | ⟨i, l1, e1, h⟩
    · exact r.own o p h
    · rcases newP h with h | ⟨o', _, h⟩
      · exact .inl (Nat.le_trans r.big h)
      · exact r.own o' p h
  · exact Nat.le_trans r.big r'.big
  · intro p h hm
    have e : H'[p]? = H[p]? := by
      refine r'.base p (Nat.lt_of_lt_of_le h r.big) ?_
      rintro ⟨o, _, h2⟩
      rcases r.own o p h2 with h3 | h3
      · omega
      · exact hm h3
    rw [e]; exact r.base p h hm
  · intro i x h
    have := r.rts i x h
    rw [List.getElem?_append_left (getElem?_lt this)]; exact this
end
end Go.Ab
