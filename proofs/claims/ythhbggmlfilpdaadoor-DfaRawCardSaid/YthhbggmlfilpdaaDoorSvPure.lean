/- A part of a law's proof: SvPure. -/
import Derived.Test.YthhbggmlfilpdaaDoorAbLaw
import Derived.Test.YthhbggmlfilpdaaDoorSvCanon
set_option linter.constructorNameAsVariable false
/-
  Functions that hang on their arguments alone, out of symbolic runs.
-/
namespace Go.Ab
open Go Go.RowKit
set_option linter.unusedVariables false
set_option linter.unusedSimpArgs false

variable {Θ : Nat → Type}

/-- The form of a result. -/
inductive Sh where
  | i (k : IntKind)
  | b
  | s
  | lst (c : Nat)
  | agg (ss : List Sh)
  | tup (ss : List Sh)
  | same

def frzT (S : SHeap Θ) : Sh → SV Θ → Cm (SV Θ)
  | .i k, x => match x with
    | .i k' n => if k = k' then .ret (.i k n) else .no
    | _ => .no
  | .b, x => match x with
    | .b t => .ret (.b t)
    | .kb t => .ret (.b t)
    | _ => .no
  | .s, x => match x with
    | .s l => .ret (.s l)
    | _ => .no
  | .lst c, x => match x with
    | .v (.slice none 0 0) => .ret (.lst c [])
    | .z0 => .ret (.lst c [])
    | .lst c' xs => match sCast c c' xs with
      | some ys => .ret (.lst c ys)
      | none => .no
    | .sl c' o off len _ => match Nat.beq c' c, sNth S o with
      | true, some (.arr c'' xs) => match sCast c c'' xs with
        | some ys => .chk (off + len ≤ ys.length) (.ret (.lst c ((ys.drop off).take len)))
        | none => .no
      | _, _ => .no
    | _ => .no
  | .agg ss, x => match x with
    | .agg cs => (frzTs S ss cs).bind fun ds => .ret (.agg ds)
    | _ => .no
  | .tup ss, x => match x with
    | .tup cs => (frzTs S ss cs).bind fun ds => .ret (.tup ds)
    | _ => .no
  | .same, x => match x.shut with
    | true => .ret x
    | false => .no
where
  frzTs (S : SHeap Θ) : List Sh → List (SV Θ) → Cm (List (SV Θ))
  | [], [] => .ret []
  | s :: ss, x :: xs => (frzT S s x).bind fun y => (frzTs S ss xs).bind fun ys => .ret (y :: ys)
  | _, _ => .no

/-- What a function's runs may give. -/
def PCall (P : Program) (C : Cod Θ) (f : FuncId) (args : List (SV Θ)) (K : SV Θ → Prop) : Prop :=
  ∀ H, ACalls P f (args.map (SV.av C)) H fun r H' => H' = H ∧ ∃ y, r = SV.av C y ∧ y.shut = true ∧ K y

theorem PCall.pure {P : Program} {C : Cod Θ} {f : FuncId} {args : List (SV Θ)} {v : SV Θ} (h : PCall P C f args (· = v)) : PureCall P f (args.map (SV.av C)) (v.av C) :=
  fun H => (h H).mono fun r H' ⟨h1, y, h2, _, h3⟩ => ⟨by rw [h2, h3], h1⟩

theorem PCall.mono {P : Program} {C : Cod Θ} {f : FuncId} {args : List (SV Θ)} {K K' : SV Θ → Prop} (h : PCall P C f args K) (hk : ∀ y, K y → K' y) : PCall P C f args K' :=
  fun H => (h H).mono fun r H' ⟨h1, y, h2, h3, h4⟩ => ⟨h1, y, h2, h3, hk y h4⟩

def noBase (H : Heap) : Base := ⟨fun _ => False, H, []⟩

def Qp (C : Cod Θ) (H0 : Heap) (K : SV Θ → Prop) (r : AV) (H' : Heap) : Prop :=
  ∃ L y, H' = H0 ++ L ∧ Frz H' H0.length r (SV.av C y) ∧ y.shut = true ∧ K y

/-- What the head of a loop comes to, in a function that hangs on its arguments alone. -/
def UW (P : Program) (C : Cod Θ) (rs : List ARes) (K : SV Θ → Prop) (fs : List (Fr Θ)) (ρ : SEnv Θ) (S : SHeap Θ) : Prop :=
  ∀ H0, CW P C (noBase H0) rs (Qp C H0 K) fs ρ S

def codeKey : ACode → Nat
  | .ops l => opsKey l
  | .draw l => opsKey l
  | .drawk l _ => opsKey l
  | .seq a b => match codeKey a with
    | 0 => codeKey b
    | n + 1 => n + 1
  | .cond _ a b => match codeKey a with
    | 0 => codeKey b
    | n + 1 => n + 1
  | .block _ a => codeKey a
  | .loop a => codeKey a
  | _ => 0
where
  opsKey : List AOper → Nat
  | [] => 0
  | o :: os => match o.dst with
    | some d => d + 1
    | none => opsKey os

/-- Which loop it is, and in which calls. -/
def sigOf : List (Fr Θ) → List Nat
  | [] => []
  | .lp N a :: fs => (1000 * N + codeKey a) :: sigOf fs
  | .cal _ (some d) _ :: fs => (1000000 + d) :: sigOf fs
  | .cal _ none _ :: fs => 1000000 :: sigOf fs
  | _ :: fs => sigOf fs

def sameL : List Nat → List Nat → Bool
  | [], [] => true
  | x :: xs, y :: ys => match Nat.beq x y with
    | true => sameL xs ys
    | false => false
  | _, _ => false

def hintGet : List (List Nat × Hint) → List Nat → Option Hint
  | [], _ => none
  | (k, h) :: r, s => match sameL k s with
    | true => some h
    | false => hintGet r s

def LfU (P : Program) (C : Cod Θ) (rs : List ARes) (hs : List (List Nat × Hint)) (sh : Sh) (K : SV Θ → Prop) : Lf Θ → Prop
  | .fin w S => (frzT S sh w).den K
  | .at fs ρ S => match hintGet hs (sigOf fs) with
    | some h => (canon h fs ρ S).den fun r => UW P C rs K r.1 r.2.1 r.2.2
    | none => UW P C rs K fs ρ S

section
variable {C : Cod Θ} {ι : Emb} {S : SHeap Θ} {H H0 : Heap} {P : Program} {K : SV Θ → Prop}

theorem shutA_of : ∀ {as : List AV}, (∀ a ∈ as, a.shut = true) → AV.shut.shutL as = true := by
  intro as
  induction as with
  | nil => intro _; rfl
  | cons a as ih => intro h; simp [AV.shut.shutL, h a (by simp), ih fun b hb => h b (by simp [hb])]

theorem avE_shut (ok : CodOk C) {c : Nat} (x : Θ c) : (C.avE c x).shut = true := by
  have := ok.shut c x
  unfold Cod.avE wrapA
  split
  · simp only [AV.shut]; exact shutA_of this
  · split
    · rename_i a _ h; exact this a (by rw [h]; simp)
    · rfl

theorem av_shut (ok : CodOk C) : ∀ {x : SV Θ}, x.shut = true → (x.av C).shut = true := by
  intro x
  refine SV.rec (motive_1 := fun x => x.shut = true → (x.av C).shut = true) (motive_2 := fun xs => SV.shut.shutL xs = true → AV.shut.shutL (SV.av.avL C xs) = true)
    ?_ ?_ ?_ ?_ ?_ ?_ ?_ ?_ ?_ ?_ ?_ ?_ ?_ ?_ ?_ ?_ ?_ ?_ ?_ ?_ ?_ ?_ x
  case refine_7 => intro cs ih h; simp only [SV.av, AV.shut]; exact ih (by simpa [SV.shut] using h)
  case refine_8 => intro cs ih h; simp only [SV.av, AV.shut]; exact ih (by simpa [SV.shut] using h)
  case refine_9 =>
    intro c xs _
    simp only [SV.av, AV.shut]
    refine shutA_of fun a ha => ?_
    obtain ⟨x, _, rfl⟩ := List.mem_map.1 ha
    exact avE_shut ok x
  case refine_10 => intro x ih h; simp only [SV.av, AV.shut]; exact ih (by simpa [SV.shut] using h)
  case refine_15 => intro f cs ih h; simp only [SV.av, AV.shut]; exact ih (by simpa [SV.shut] using h)
  case refine_17 => intro t x ih h; simp only [SV.av, AV.shut]; exact ih (by simpa [SV.shut] using h)
  case refine_21 => intro _; rfl
  case refine_22 =>
    intro x xs ihx ih h
    simp only [SV.shut.shutL] at h
    split at h
    · rename_i hx; simp [SV.av.avL, AV.shut.shutL, ihx hx, ih h]
    · cases h
  all_goals (intros; first | rfl | (simp [SV.shut] at *))

/-- Values in their last form: what is made is no longer written. -/
theorem frzT_sound (ok : CodOk C) (r : RH C (noBase H0) ι S H) : ∀ {sh : Sh} {x : SV Θ} {a : AV}, RV C ι x a → ∀ {K : SV Θ → Prop}, (frzT S sh x).den K → ∃ y, Frz H H0.length a (SV.av C y) ∧ y.shut = true ∧ K y := by
  have same : ∀ {x : SV Θ} {a : AV}, RV C ι x a → x.shut = true → Frz H H0.length a (SV.av C x) := by
    intro x a hx hs
    have := hx.eq_av hs
    subst this
    exact .same (bnd_shut (av_shut ok hs))
  intro sh
  refine Sh.rec (motive_1 := fun sh => ∀ {x : SV Θ} {a : AV}, RV C ι x a → ∀ {K : SV Θ → Prop}, (frzT S sh x).den K → ∃ y, Frz H H0.length a (SV.av C y) ∧ y.shut = true ∧ K y)
    (motive_2 := fun ss => ∀ {xs : List (SV Θ)} {as : List AV}, RVs C ι xs as → ∀ {K : List (SV Θ) → Prop}, (frzT.frzTs S ss xs).den K →
      ∃ ys, ys.length = as.length ∧ (∀ (i : Nat) (a b : AV), as[i]? = some a → (ys.map (SV.av C))[i]? = some b → Frz H H0.length a b) ∧ SV.shut.shutL ys = true ∧ K ys)
    ?_ ?_ ?_ ?_ ?_ ?_ ?_ ?_ ?_ sh
  · intro k x a hx K h
    unfold frzT at h
    split at h
    · split at h
      · rename_i hk; subst hk; exact ⟨_, same hx rfl, rfl, h⟩
      · exact h.elim
    · exact h.elim
  · intro x a hx K h
    unfold frzT at h
    split at h
    · exact ⟨_, same hx rfl, rfl, h⟩
    · rename_i t; cases hx; exact ⟨.b t, same (.b t) rfl, rfl, h⟩
    · exact h.elim
  · intro x a hx K h
    unfold frzT at h
    split at h
    · exact ⟨_, same hx rfl, rfl, h⟩
    · exact h.elim
  · intro c x a hx K h
    unfold frzT at h
    split at h
    · cases hx; exact ⟨.lst c [], .nil0, rfl, h⟩
    · cases hx; exact ⟨.lst c [], .z00, rfl, h⟩
    · rename_i c' xs
      split at h
      · rename_i ys hys
        obtain ⟨e, he⟩ := cast_some hys
        subst e
        have he : ys = xs := he
        subst he
        exact ⟨_, same hx rfl, rfl, h⟩
      · exact h.elim
    · rename_i c' o off len cap
      split at h
      · rename_i c'' xs hc hcs
        have := nbeq_true hc
        subst this
        split at h
        · rename_i ys hys
          obtain ⟨e, he⟩ := cast_some hys
          subst e
          have he : ys = xs := he
          subst he
          obtain ⟨h1, h2⟩ := h
          refine ⟨.lst c'' ((ys.drop off).take len), ?_, rfl, h2⟩
          cases hx with
          | slNil ho hc' ha =>
            simp only [SV.av, List.drop_zero, List.take_zero, List.map_nil]
            rcases ha with rfl | rfl
            · exact .nil0
            · exact .z00
          | @sl _ _ _ _ _ acap p ho hk hc' =>
            obtain ⟨z, hz, hr⟩ := r.get ho hcs (by simp)
            cases hr with
            | arr _ _ ext =>
              have hp : H0.length ≤ p := by
                rcases r.own o p ho with h | h
                · exact h
                · exact h.elim
              simp only [SV.av]
              refine .sl (cs := C.flat c'' ys ++ ext) (xs := ((ys.drop off).take len).map (C.avE c'')) hz hp (by simp; omega) ?_ ?_ ?_
              · have hmul : off * C.sz c'' + len * C.sz c'' = (off + len) * C.sz c'' := (Nat.add_mul _ _ _).symm
                have hle : (off + len) * C.sz c'' ≤ ys.length * C.sz c'' := Nat.mul_le_mul_right _ h1
                simp [flat_length ok]; omega
              · intro i z hz
                rw [List.getElem?_map, Option.map_eq_some_iff] at hz
                obtain ⟨y, _, rfl⟩ := hz
                rw [avE_cells ok, ok.len]
              · intro i z j a b hz' hb ha
                rw [List.getElem?_map, Option.map_eq_some_iff] at hz'
                obtain ⟨y, hy', rfl⟩ := hz'
                rw [avE_cells ok] at hb
                have hi := getElem?_lt hy'
                simp at hi
                rw [List.getElem?_take_of_lt (by omega), List.getElem?_drop] at hy'
                obtain ⟨as, bs, e1, e2, _⟩ := flat_split ok hy' ext
                rw [e1] at ha
                have hj := getElem?_lt hb
                have : off * C.sz c'' + (i * C.sz c'' + j) = as.length + j := by rw [e2, Nat.add_mul]; omega
                rw [this, List.getElem?_append_right (by omega), Nat.add_sub_cancel_left, List.getElem?_append_left hj, hb] at ha
                cases ha
                exact .same (bnd_shut (ok.shut _ _ _ (List.mem_of_getElem? hb)))
        · exact h.elim
      · exact h.elim
    · exact h.elim
  · intro ss ih x a hx K h
    unfold frzT at h
    split at h
    · cases hx with
      | agg hl hh =>
        obtain ⟨ys, h1, h2, h3, h4⟩ := ih ⟨hl, hh⟩ (Cm.den_bind h)
        refine ⟨.agg ys, ?_, by simpa [SV.shut] using h3, h4⟩
        simp only [SV.av, avL_map]
        exact .agg (by simp [h1]) h2
    · exact h.elim
  · intro ss ih x a hx K h
    unfold frzT at h
    split at h
    · cases hx with
      | tup hl hh =>
        obtain ⟨ys, h1, h2, h3, h4⟩ := ih ⟨hl, hh⟩ (Cm.den_bind h)
        refine ⟨.tup ys, ?_, by simpa [SV.shut] using h3, h4⟩
        simp only [SV.av, avL_map]
        exact .tup (by simp [h1]) h2
    · exact h.elim
  · intro x a hx K h
    unfold frzT at h
    split at h
    · rename_i hs; exact ⟨_, same hx hs, hs, h⟩
    · exact h.elim
  · intro xs as hx K h
    unfold frzT.frzTs at h
    split at h
    · rw [hx.unnil]; exact ⟨[], rfl, fun i a b h => by simp at h, rfl, h⟩
    · rename_i h1 h2; cases h2
    · exact h.elim
  · intro s ss ihs ih xs as hx K h
    unfold frzT.frzTs at h
    split at h
    · rename_i h1; cases h1
    · rename_i s' ss' x xs' h1
      cases h1
      obtain ⟨a, bs, rfl, ha, hb⟩ := hx.uncons
      obtain ⟨y, k1, k2, k3⟩ := ihs ha (Cm.den_bind h)
      obtain ⟨ys, k4, k5, k6, k7⟩ := ih hb (Cm.den_bind k3)
      refine ⟨y :: ys, by simp [k4], fun i a' b' h1 h2 => ?_, by simp [SV.shut.shutL, k2, k6], k7⟩
      cases i with
      | zero => simp at h1 h2; subst h1; subst h2; exact k1
      | succ i => exact k5 i a' b' (by simpa using h1) (by simpa using h2)
    · exact h.elim

variable {rs : List ARes} {hs : List (List Nat × Hint)} {sh : Sh} {KN : KnownF Θ} {T : List (Nat × FI)}

theorem lfU_sound (ok : CodOk C) {l : Lf Θ} (h : LfU P C rs hs sh K l) (H0 : Heap) : LfP P C (noBase H0) rs (Qp C H0 K) l := by
  cases l with
  | fin w S =>
    intro ι r H hr hh
    obtain ⟨y, h1, h2, h3⟩ := frzT_sound ok hh hr h
    have hb : ∀ p, p < H0.length → H[p]? = H0[p]? := fun p hp => hh.base p hp (fun h => h.elim)
    refine ⟨H.drop H0.length, y, ?_, h1, h2, h3⟩
    have hbig := hh.big
    apply List.ext_getElem?
    intro i
    rcases Nat.lt_or_ge i H0.length with hi | hi
    · rw [List.getElem?_append_left hi, hb i hi]
    · rw [List.getElem?_append_right hi, List.getElem?_drop]; congr 1; omega
  | «at» fs ρ S =>
    simp only [LfU] at h
    split at h
    · exact canon_sound ok (Nat.zero_le _) (Cm.den_mono (fun r h => h H0) h)
    · exact h H0

/-- A function that hangs on its arguments alone. -/
theorem PCall.start (ok : CodOk C) (ko : KnownOk P C KN) (hT : ∀ p ∈ T, Knows P p.1 p.2) {f : Nat} {x : FI} (hk : Knows P f x) {args : List (SV Θ)} (hl : Nat.ble args.length x.n = true) (ha : SV.shut.shutL args = true) (n : Nat)
    (h : (run C T KN x.rs n (.ex x.n x.code) [] (argsEnv args 0) []).den (LfU P C x.rs hs sh K)) : PCall P C f args K := by
  intro H0
  have hl' := Nat.le_of_ble_eq_true hl
  have h1 := Cm.den_mono (fun l h => lfU_sound ok (l := l) h H0) h
  have hargs : RVs C ([] : Emb) args (args.map (SV.av C)) := by
    refine ⟨by simp, fun i x a hx hxa => ?_⟩
    simp only [List.getElem?_map, hx, Option.map_some, Option.some.injEq] at hxa
    subst hxa
    exact RV.of_av (shutL_get ha i x hx)
  have r0 : RH C (noBase H0) ([] : Emb) ([] : SHeap Θ) H0 := ⟨rfl, fun o p h => by simp at h, fun o o' p h => by simp at h, fun o p x h => by simp at h, fun o x h => by simp at h, fun j q t h => by simp at h, fun o p h => by simp at h, Nat.le_refl _, fun p _ _ => rfl, fun i x h => by simp [noBase] at h⟩
  have h2 := run_sound (A := noBase H0) (rs0 := x.rs) (Qf := Qp C H0 K) ok ko hT n _ _ _ _ h1 [] ⟨envOf (args.map (SV.av C)), H0⟩ _ .nil (RE.args hargs) r0
  have key : ∀ (r : AV) (H' : Heap), Qp C H0 K r H' → ∃ L r', H' = H0 ++ L ∧ Frz H' H0.length r r' ∧ (H0 = H0 ∧ ∃ y, r' = SV.av C y ∧ y.shut = true ∧ K y) := fun r H' ⟨L, y, k1, k2, k3, k4⟩ => ⟨L, _, k1, k2, rfl, y, rfl, k3, k4⟩
  exact ACalls.frz ((callG (H := H0) hk (by simpa using hl') h2).mono key)

/-- A round of a loop. -/
theorem UW.round (ok : CodOk C) (ko : KnownOk P C KN) (hT : ∀ p ∈ T, Knows P p.1 p.2) (n : Nat) {N : Nat} {a : ACode} {fs : List (Fr Θ)} {ρ : SEnv Θ} {S : SHeap Θ}
    (h : (run C T KN rs n (.ex N a) (.lp N a :: fs) ρ S).den (LfU P C rs hs sh K)) : UW P C rs K (.lp N a :: fs) ρ S :=
  fun H0 => CW.round ok ko hT n (Cm.den_mono (fun l h => lfU_sound ok (l := l) h H0) h)

end
end Go.Ab
