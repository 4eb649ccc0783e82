/- A part of a law's proof: SvFz. -/
import Derived.Test.YtjkcjbkkgkhljaaAbFrzP
import Derived.Test.YtjkcjbkkgkhljaaSvCC
set_option linter.constructorNameAsVariable false
/-
  Rows that become lists: values of a result, and values that a call reads.
-/
namespace Go.Ab
open Go Go.RowKit
set_option linter.unusedVariables false
set_option linter.unusedSimpArgs false
variable {Θ : Nat -> Type}
inductive Sh where
  | i (k : IntKind)
  | b
  | s
  | lst (c : Nat)
  | agg (ss : List Sh)
  | tup (ss : List Sh)
  | same
def frzT (S : SHeap Θ) : Sh -> SV Θ -> Cm (SV Θ)
  | .i k, x => match x with
    | .i k' n => if k = k' then .ret (.i k n) else .no
    | _ => .no
  | .b, x => match x with
    | .b t => .ret (.b t)
    | .kb t => .ret (.b t)
    | _ => .no
  | .s, x => match x with
    | .s l => .ret (.s l)
    | _ => .no
  | .lst c, x => match x with
    | .v (.slice none 0 0) => .ret (.lst c [])
    | .z0 => .ret (.lst c [])
    | .lst c' xs => match sCast c c' xs with
      | some ys => .ret (.lst c ys)
      | none => .no
    | .sl c' o off len _ => match Nat.beq c' c, sNth S o with
      | true, some (.arr c'' xs) => match sCast c c'' xs with
        | some ys => .chk (off + len <= ys.length) (.ret (.lst c ((ys.drop off).take len)))
        | none => .no
      | _, _ => .no
    | _ => .no
  | .agg ss, x => match x with
    | .agg cs => (frzTs S ss cs).bind fun ds => .ret (.agg ds)
    | _ => .no
  | .tup ss, x => match x with
    | .tup cs => (frzTs S ss cs).bind fun ds => .ret (.tup ds)
    | _ => .no
  | .same, x => match x.shut with
    | true => .ret x
    | false => .no
where
  frzTs (S : SHeap Θ) : List Sh -> List (SV Θ) -> Cm (List (SV Θ))
  | [], [] => .ret []
  | s :: ss, x :: xs => (frzT S s x).bind fun y => (frzTs S ss xs).bind fun ys => .ret (y :: ys)
  | _, _ => .no
def noBase (H : Heap) : Base := ⟨fun _ => False, H, []⟩
section
variable {C : Cod Θ} {ι : Emb} {S : SHeap Θ} {H H0 : Heap} {P : Program}
theorem shutA_of : ∀ {as : List AV}, (∀ a ∈ as, a.shut = true) -> AV.shut.shutL as = true := by
  intro as
  induction as with
  | nil => intro _; rfl
  | cons a as ih => intro h; simp [AV.shut.shutL, h a (by simp), ih fun b hb => h b (by simp [hb])]
theorem avE_shut (ok : CodOk C) {c : Nat} (x : Θ c) : (C.avE c x).shut = true := by
  have := ok.shut c x
  unfold Cod.avE wrapA
  split
  · simp only [AV.shut]; exact shutA_of this
  · split
    · rename_i a _ h; exact this a (by rw [h]; simp)
    · rfl
theorem av_shut (ok : CodOk C) : ∀ {x : SV Θ}, x.shut = true -> (x.av C).shut = true := by
  intro x
  refine SV.rec (motive_1 := fun x => x.shut = true -> (x.av C).shut = true) (motive_2 := fun xs => SV.shut.shutL xs = true -> AV.shut.shutL (SV.av.avL C xs) = true)
    ?_ ?_ ?_ ?_ ?_ ?_ ?_ ?_ ?_ ?_ ?_ ?_ ?_ ?_ ?_ ?_ ?_ ?_ ?_ ?_ ?_ ?_ x
  case refine_7 => intro cs ih h; simp only [SV.av, AV.shut]; exact ih (by simpa [SV.shut] using h)
  case refine_8 => intro cs ih h; simp only [SV.av, AV.shut]; exact ih (by simpa [SV.shut] using h)
  case refine_9 =>
    intro c xs _
    simp only [SV.av, AV.shut]
    refine shutA_of fun a ha => ?_
    obtain ⟨x, _, rfl⟩ := List.mem_map.1 ha
    exact avE_shut ok x
  case refine_10 => intro x ih h; simp only [SV.av, AV.shut]; exact ih (by simpa [SV.shut] using h)
  case refine_15 => intro f cs ih h; simp only [SV.av, AV.shut]; exact ih (by simpa [SV.shut] using h)
  case refine_17 => intro t x ih h; simp only [SV.av, AV.shut]; exact ih (by simpa [SV.shut] using h)
  case refine_21 => intro _; rfl
  case refine_22 =>
    intro x xs ihx ih h
    simp only [SV.shut.shutL] at h
    split at h
    · rename_i hx; simp [SV.av.avL, AV.shut.shutL, ihx hx, ih h]
    · cases h
  all_goals (intros; first | rfl | (simp [SV.shut] at *))
theorem frzT_sound (ok : CodOk C) (r : RH C (noBase H0) ι S H) : ∀ {sh : Sh} {x : SV Θ} {a : AV}, RV C ι x a -> ∀ {K : SV Θ -> Prop}, (frzT S sh x).den K -> ∃ y, Frz H H0.length a (SV.av C y) ∧ y.shut = true ∧ K y := by
  have same : ∀ {x : SV Θ} {a : AV}, RV C ι x a -> x.shut = true -> Frz H H0.length a (SV.av C x) := by
    intro x a hx hs
    have := hx.eq_av hs
    subst this
    exact .same (bnd_shut (av_shut ok hs))
  intro sh
  refine Sh.rec (motive_1 := fun sh => ∀ {x : SV Θ} {a : AV}, RV C ι x a -> ∀ {K : SV Θ -> Prop}, (frzT S sh x).den K -> ∃ y, Frz H H0.length a (SV.av C y) ∧ y.shut = true ∧ K y)
    (motive_2 := fun ss => ∀ {xs : List (SV Θ)} {as : List AV}, RVs C ι xs as -> ∀ {K : List (SV Θ) -> Prop}, (frzT.frzTs S ss xs).den K ->
      ∃ ys, ys.length = as.length ∧ (∀ (i : Nat) (a b : AV), as[i]? = some a -> (ys.map (SV.av C))[i]? = some b -> Frz H H0.length a b) ∧ SV.shut.shutL ys = true ∧ K ys)
    ?_ ?_ ?_ ?_ ?_ ?_ ?_ ?_ ?_ sh
  · intro k x a hx K h
    unfold frzT at h
    split at h
    · split at h
      · rename_i hk; subst hk; exact ⟨_, same hx rfl, rfl, h⟩
      · exact h.elim
    · exact h.elim
  · intro x a hx K h
    unfold frzT at h
    split at h
    · exact ⟨_, same hx rfl, rfl, h⟩
    · rename_i t; cases hx; exact ⟨.b t, same (.b t) rfl, rfl, h⟩
    · exact h.elim
  · intro x a hx K h
    unfold frzT at h
    split at h
    · exact ⟨_, same hx rfl, rfl, h⟩
    · exact h.elim
  · intro c x a hx K h
    unfold frzT at h
    split at h
    · cases hx; exact ⟨.lst c [], .nil0, rfl, h⟩
    · cases hx; exact ⟨.lst c [], .z00, rfl, h⟩
    · rename_i c' xs
      split at h
      · rename_i ys hys
        obtain ⟨e, he⟩ := cast_some hys
        subst e
        have he : ys = xs := he
        subst he
        exact ⟨_, same hx rfl, rfl, h⟩
      · exact h.elim
    · rename_i c' o off len cap
      split at h
      · rename_i c'' xs hc hcs
        have := nbeq_true hc
        subst this
        split at h
        · rename_i ys hys
          obtain ⟨e, he⟩ := cast_some hys
          subst e
          have he : ys = xs := he
          subst he
          obtain ⟨h1, h2⟩ := h
          refine ⟨.lst c'' ((ys.drop off).take len), ?_, rfl, h2⟩
          cases hx with
          | slNil ho hc' ha =>
            simp only [SV.av, List.drop_zero, List.take_zero, List.map_nil]
            rcases ha with rfl | rfl
            · exact .nil0
            · exact .z00
          | @sl _ _ _ _ _ acap p ho hk hc' =>
            obtain ⟨z, hz, hr⟩ := r.get ho hcs (by simp)
            cases hr with
            | arr _ _ ext =>
              have hp : H0.length <= p := by
                rcases r.own o p ho with h | h
                · exact h
                · exact h.elim
              simp only [SV.av]
              refine .sl (cs := C.flat c'' ys ++ ext) (xs := ((ys.drop off).take len).map (C.avE c'')) hz hp (by simp; omega) ?_ ?_ ?_
              · have hmul : off * C.sz c'' + len * C.sz c'' = (off + len) * C.sz c'' := (Nat.add_mul _ _ _).symm
                have hle : (off + len) * C.sz c'' <= ys.length * C.sz c'' := Nat.mul_le_mul_right _ h1
                simp [flat_length ok]; omega
              · intro i z hz
                rw [List.getElem?_map, Option.map_eq_some_iff] at hz
                obtain ⟨y, _, rfl⟩ := hz
                rw [avE_cells ok, ok.len]
              · intro i z j a b hz' hb ha
                rw [List.getElem?_map, Option.map_eq_some_iff] at hz'
                obtain ⟨y, hy', rfl⟩ := hz'
                rw [avE_cells ok] at hb
                have hi := getElem?_lt hy'
                simp at hi
                rw [List.getElem?_take_of_lt (by omega), List.getElem?_drop] at hy'
                obtain ⟨as, bs, e1, e2, _⟩ := flat_split ok hy' ext
                rw [e1] at ha
                have hj := getElem?_lt hb
                have : off * C.sz c'' + (i * C.sz c'' + j) = as.length + j := by rw [e2, Nat.add_mul]; omega
                rw [this, List.getElem?_append_right (by omega), Nat.add_sub_cancel_left, List.getElem?_append_left hj, hb] at ha
                cases ha
                exact .same (bnd_shut (ok.shut _ _ _ (List.mem_of_getElem? hb)))
        · exact h.elim
      · exact h.elim
    · exact h.elim
  · intro ss ih x a hx K h
    unfold frzT at h
    split at h
    · cases hx with
      | agg hl hh =>
        obtain ⟨ys, h1, h2, h3, h4⟩ := ih ⟨hl, hh⟩ (Cm.den_bind h)
        refine ⟨.agg ys, ?_, by simpa [SV.shut] using h3, h4⟩
        simp only [SV.av, avL_map]
        exact .agg (by simp [h1]) h2
    · exact h.elim
  · intro ss ih x a hx K h
    unfold frzT at h
    split at h
    · cases hx with
      | tup hl hh =>
        obtain ⟨ys, h1, h2, h3, h4⟩ := ih ⟨hl, hh⟩ (Cm.den_bind h)
        refine ⟨.tup ys, ?_, by simpa [SV.shut] using h3, h4⟩
        simp only [SV.av, avL_map]
        exact .tup (by simp [h1]) h2
    · exact h.elim
  · intro x a hx K h
    unfold frzT at h
    split at h
    · rename_i hs; exact ⟨_, same hx hs, hs, h⟩
    · exact h.elim
  · intro xs as hx K h
    unfold frzT.frzTs at h
    split at h
    · rw [hx.unnil]; exact ⟨[], rfl, fun i a b h => by simp at h, rfl, h⟩
    · rename_i h1 h2; cases h2
    · exact h.elim
  · intro s ss ihs ih xs as hx K h
    unfold frzT.frzTs at h
    split at h
    · rename_i h1; cases h1
    · rename_i s' ss' x xs' h1
      cases h1
      obtain ⟨a, bs, rfl, ha, hb⟩ := hx.uncons
      obtain ⟨y, k1, k2, k3⟩ := ihs ha (Cm.den_bind h)
      obtain ⟨ys, k4, k5, k6, k7⟩ := ih hb (Cm.den_bind k3)
      refine ⟨y :: ys, by simp [k4], fun i a' b' h1 h2 => ?_, by simp [SV.shut.shutL, k2, k6], k7⟩
      cases i with
      | zero => simp at h1 h2; subst h1; subst h2; exact k1
      | succ i => exact k5 i a' b' (by simpa using h1) (by simpa using h2)
    · exact h.elim
def pk (S : SHeap Θ) : SV Θ -> Cm (SV Θ)
  | .sl c o off len cap => frzT S (.lst c) (.sl c o off len cap)
  | .agg cs => (pkL S cs).bind fun ds => .ret (.agg ds)
  | x => match x.shut with
    | true => .ret x
    | false => .no
where
  pkL (S : SHeap Θ) : List (SV Θ) -> Cm (List (SV Θ))
  | [] => .ret []
  | x :: xs => (pk S x).bind fun y => (pkL S xs).bind fun ys => .ret (y :: ys)
theorem pk_sound (ok : CodOk C) (r : RH C (noBase []) ι S H) : ∀ {x : SV Θ} {a : AV}, RV C ι x a -> ∀ {K : SV Θ -> Prop}, (pk S x).den K -> ∃ y, Frz H 0 a (SV.av C y) ∧ y.shut = true ∧ K y := by
  have same : ∀ {x : SV Θ} {a : AV}, RV C ι x a -> x.shut = true -> Frz H 0 a (SV.av C x) := by
    intro x a hx hs
    have := hx.eq_av hs
    subst this
    exact .same (bnd_shut (av_shut ok hs))
  have other : ∀ {x : SV Θ} {a : AV}, RV C ι x a -> ∀ {K : SV Θ -> Prop}, (match x.shut with | true => Cm.ret x | false => Cm.no).den K -> ∃ y, Frz H 0 a (SV.av C y) ∧ y.shut = true ∧ K y := by
    intro x a hx K h
    split at h
    · rename_i hs; exact ⟨x, same hx hs, hs, h⟩
    · exact h.elim
  intro x
  refine SV.rec (motive_1 := fun x => ∀ {a : AV}, RV C ι x a -> ∀ {K : SV Θ -> Prop}, (pk S x).den K -> ∃ y, Frz H 0 a (SV.av C y) ∧ y.shut = true ∧ K y)
    (motive_2 := fun xs => ∀ {as : List AV}, RVs C ι xs as -> ∀ {K : List (SV Θ) -> Prop}, (pk.pkL S xs).den K ->
      ∃ ys, ys.length = as.length ∧ (∀ (i : Nat) (a b : AV), as[i]? = some a -> (ys.map (SV.av C))[i]? = some b -> Frz H 0 a b) ∧ SV.shut.shutL ys = true ∧ K ys)
    ?_ ?_ ?_ ?_ ?_ ?_ ?_ ?_ ?_ ?_ ?_ ?_ ?_ ?_ ?_ ?_ ?_ ?_ ?_ ?_ ?_ ?_ x
  case refine_7 =>
    intro cs ih a hx K h
    cases hx with
    | @agg _ as hl hh =>
      simp only [pk] at h
      obtain ⟨ys, h1, h2, h3, h4⟩ := ih ⟨hl, hh⟩ (Cm.den_bind h)
      refine ⟨.agg ys, ?_, by simpa [SV.shut] using h3, h4⟩
      simp only [SV.av, avL_map]
      exact .agg (by simp [h1]) h2
  case refine_11 =>
    intro c o off len cap a hx K h
    exact frzT_sound ok r hx h
  case refine_21 => intro as hx K h; exact ⟨[], by rw [hx.unnil]; rfl, fun i a b ha hb => by simp at hb, rfl, h⟩
  case refine_22 =>
    intro y ys ihy ih as hx K h
    obtain ⟨a, bs, rfl, h1, h2⟩ := hx.uncons
    simp only [pk.pkL] at h
    obtain ⟨z, k1, k2, k3⟩ := ihy h1 (Cm.den_bind h)
    obtain ⟨zs, l1, l2, l3, l4⟩ := ih h2 (Cm.den_bind k3)
    refine ⟨z :: zs, by simp [l1], fun i a b ha hb => ?_, by simp [SV.shut.shutL, k2, l3], l4⟩
    cases i with
    | zero => simp at ha hb; subst ha; subst hb; exact k1
    | succ i => exact l2 i a b (by simpa using ha) (by simpa using hb)
  all_goals (intros; rename_i h; simp only [pk] at h; exact other (by assumption) h)
theorem pkL_sound (ok : CodOk C) (r : RH C (noBase []) ι S H) : ∀ {xs : List (SV Θ)} {as : List AV}, RVs C ι xs as -> ∀ {K : List (SV Θ) -> Prop}, (pk.pkL S xs).den K ->
      ∃ ys, ys.length = as.length ∧ (∀ (i : Nat) (a b : AV), as[i]? = some a -> (ys.map (SV.av C))[i]? = some b -> Frz H 0 a b) ∧ SV.shut.shutL ys = true ∧ K ys := by
  intro xs
  induction xs with
  | nil => intro as hx K h; exact ⟨[], by rw [hx.unnil]; rfl, fun i a b ha hb => by simp at hb, rfl, h⟩
  | cons y ys ih =>
    intro as hx K h
    obtain ⟨a, bs, rfl, h1, h2⟩ := hx.uncons
    simp only [pk.pkL] at h
    obtain ⟨z, k1, k2, k3⟩ := pk_sound ok r h1 (Cm.den_bind h)
    obtain ⟨zs, l1, l2, l3, l4⟩ := ih h2 (Cm.den_bind k3)
    refine ⟨z :: zs, by simp [l1], fun i a b ha hb => ?_, by simp [SV.shut.shutL, k2, l3], l4⟩
    cases i with
    | zero => simp at ha hb; subst ha; subst hb; exact k1
    | succ i => exact l2 i a b (by simpa using ha) (by simpa using hb)
def SV.sc : SV Θ -> Bool
  | .i _ _ => true
  | .b _ => true
  | .kb _ => true
  | _ => false
theorem sc_scal {x : SV Θ} (h : x.sc = true) : (x.av C).scal = true := by
  cases x <;> simp only [SV.sc, Bool.false_eq_true] at h <;> rfl
theorem RH.noB {A : Base} (r : RH C A ι S H) : RH C (noBase []) ι S H :=
  ⟨r.len, r.lt, r.inj, r.obj, r.nil, r.tg, fun o p h => .inl (Nat.zero_le _), Nat.zero_le _, fun p hp => absurd hp (Nat.not_lt_zero _), fun i x h => by simp [noBase] at h⟩
end
end Go.Ab
