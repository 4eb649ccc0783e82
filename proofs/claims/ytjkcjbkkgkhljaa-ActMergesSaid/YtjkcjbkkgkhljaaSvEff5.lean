/- A part of a law's proof: SvEff5. -/
import Derived.Test.YtjkcjbkkgkhljaaSvEff4
import Derived.Test.YtjkcjbkkgkhljaaSvIns
set_option linter.constructorNameAsVariable false
/-
  A call that changes what it is handed, as one that is known.
-/
namespace Go.Ab
open Go Go.RowKit
set_option linter.unusedVariables false
set_option linter.unusedSimpArgs false
variable {Θ : Nat -> Type}
inductive EA where
  | p (a : ATy)
  | fn (f : Nat)
  | ptr (i : Nat)
  | row (c i : Nat)
@[reducible] def EA.T (Θ : Nat -> Type) : EA -> Type
  | .p a => a.T Θ
  | .fn _ => Unit
  | .ptr _ => Unit
  | .row _ _ => Nat
@[reducible] def ETup (Θ : Nat -> Type) : List EA -> Type
  | [] => Unit
  | e :: es => e.T Θ × ETup Θ es
def encE (G : CodG Θ) : (es : List EA) -> ETup Θ es -> List (SV Θ)
  | [], _ => []
  | e :: es, x => match e, x with
    | .p a, x => a.enc G x.1 :: encE G es x.2
    | .fn f, x => .fn f [] :: encE G es x.2
    | .ptr i, x => .ptr i 0 :: encE G es x.2
    | .row c i, x => .sl c i 0 x.1 none :: encE G es x.2
def asgE : List EA -> List (SV Θ) -> List Nat
  | [], _ => []
  | e :: es, xs => match xs with
    | [] => []
    | x :: xs => match e with
      | .p _ => asgE es xs
      | .fn _ => asgE es xs
      | .ptr _ => match x with
        | .ptr o _ => o :: asgE es xs
        | _ => asgE es xs
      | .row _ _ => match x with
        | .sl _ o _ _ _ => o :: asgE es xs
        | _ => asgE es xs
def readE (G : CodG Θ) (asg : List Nat) : (es : List EA) -> List (SV Θ) -> Cm (ETup Θ es)
  | [], xs => match xs with
    | [] => .ret ()
    | _ :: _ => .no
  | e :: es, xs => match xs with
    | [] => .no
    | x :: xs => match e with
      | .p a => match x.shut with
        | true => match a.dec G x with
          | some y => (readE G asg es xs).bind fun r => .ret (y, r)
          | none => .no
        | false => .no
      | .fn f => match x with
        | .fn f' cap => match Nat.beq f f', cap with
          | true, [] => (readE G asg es xs).bind fun r => .ret ((), r)
          | _, _ => .no
        | _ => .no
      | .ptr i => match refsFit asg [i] [x] with
        | true => (readE G asg es xs).bind fun r => .ret ((), r)
        | false => .no
      | .row c i => match x with
        | .sl c' o off len _ => match Nat.beq c' c, off, sNth asg i with
          | true, 0, some o' => match Nat.beq o o' with
            | true => (readE G asg es xs).bind fun r => .ret (len, r)
            | false => .no
          | _, _, _ => .no
        | _ => .no
def effE (G : CodG Θ) (ks : List OK) (es : List EA) (rs : List RK) (F : ETup Θ es -> OTup Θ ks -> Option (RTup Θ rs × OTup Θ ks)) (args : List (SV Θ)) (S : SHeap Θ) : Cm (SV Θ × SHeap Θ) :=
  (readRoots (asgE es args) S ks (asgE es args)).bind fun xo => (readE G (asgE es args) es args).bind fun y =>
    match optNodup ((asgE es args).map some ++ xo.2), tagFree ((asgE es args).map some ++ xo.2) S with
    | true, true => .get (F y xo.1) fun r => .ret ((outV G ks rs r.1).mapO (asgE es args ++ upFrom S.length ((encOut G ks r.2 rs r.1).length - (asgE es args).length)), behindS (asgE es args) xo.2 (encOut G ks r.2 rs r.1) S)
    | _, _ => .no
section
variable {G : CodG Θ} {ι ι0 : Emb} {A : Base} {S : SHeap Θ} {H : Heap} {asg : List Nat} {P : Program}
theorem enc_shut (t : ATy) (y : t.T Θ) : (t.enc G y).shut = true := by
  cases t with
  | t c =>
    simp only [ATy.enc, SV.shut]
    have : ∀ (l : List (SV Θ)), (∀ z ∈ l, z.shut = true) -> SV.shut.shutL l = true := by
      intro l
      induction l with
      | nil => intro _; rfl
      | cons z l ih => intro hl; simp only [SV.shut.shutL, hl z (by simp)]; exact ih fun u hu => hl u (by simp [hu])
    exact this _ (cellsG_shut _ _)
  | _ => rfl
theorem refsFit_one (hasg : AsgOk ι ι0 asg) {i : Nat} {x : SV Θ} (h : refsFit asg [i] [x] = true) {a : AV} (hx : RV G.cod ι x a) : RV G.cod ι0 (.ptr i 0 : SV Θ) a := by
  have := refsFit_rv (C := G.cod) hasg h (RVs.cons hx RVs.nil)
  obtain ⟨b, bs, e, h1, _⟩ := this.uncons
  cases e
  exact h1
theorem readE_rv (g : CodGOk G) : ∀ {es : List EA} {xs : List (SV Θ)} {as : List AV}, RVs G.cod ι xs as -> ∀ {K : ETup Θ es -> Prop}, (readE G asg es xs).den K ->
    ∃ y bs, K y ∧ as.length = bs.length ∧ (∀ (i : Nat) (a b : AV), as[i]? = some a -> bs[i]? = some b -> AVle a b) ∧ ∀ ι0 : Emb, AsgOk ι ι0 asg -> RVs G.cod ι0 (encE G es y) bs := by
  intro es
  induction es with
  | nil =>
    intro xs as hx K h
    simp only [readE] at h
    split at h
    · have := hx.unnil
      subst this
      exact ⟨(), [], h, rfl, fun i a b h => by simp at h, fun _ _ => .nil⟩
    · exact h.elim
  | cons e es ih =>
    intro xs as hx K h
    simp only [readE] at h
    split at h
    · exact h.elim
    · rename_i x xs
      obtain ⟨a, as, rfl, ha, has⟩ := hx.uncons
      have le : ∀ {b : AV} {bs : List AV}, AVle a b -> (∀ (i : Nat) (a b : AV), as[i]? = some a -> bs[i]? = some b -> AVle a b) -> ∀ (i : Nat) (c d : AV), (a :: as)[i]? = some c -> (b :: bs)[i]? = some d -> AVle c d := by
        intro b bs h1 h2 i c d hc hd
        cases i with
        | zero => simp at hc hd; subst hc; subst hd; exact h1
        | succ i => exact h2 i c d (by simpa using hc) (by simpa using hd)
      cases e with
      | p t =>
        simp only at h
        split at h
        · rename_i hs
          split at h
          · rename_i y hy
            obtain ⟨ys, bs, h1, h2, h3, h4⟩ := ih has (Cm.den_bind h)
            have e1 := ha.eq_av hs
            subst e1
            refine ⟨(y, ys), (t.enc G y).av G.cod :: bs, h1, by simp [h2], le (dec_le g hy) h3, fun ι0 hι => ?_⟩
            exact .cons (RV.of_av (enc_shut t y)) (h4 ι0 hι)
          · exact h.elim
        · exact h.elim
      | fn f =>
        simp only at h
        split at h
        · rename_i f' cap
          split at h
          · rename_i hf
            have := nbeq_true hf
            subst this
            obtain ⟨ys, bs, h1, h2, h3, h4⟩ := ih has (Cm.den_bind h)
            refine ⟨((), ys), a :: bs, h1, by simp [h2], le (.same _) h3, fun ι0 hι => ?_⟩
            refine .cons ?_ (h4 ι0 hι)
            cases ha with
            | fn hl hh =>
              have : ∀ {l : List AV}, ([] : List (SV Θ)).length = l.length -> l = [] := fun h => List.length_eq_zero_iff.1 h.symm
              have := this hl
              subst this
              exact .fn rfl fun i x a h => by simp at h
          · exact h.elim
        · exact h.elim
      | ptr i =>
        simp only at h
        split at h
        · rename_i hf
          obtain ⟨ys, bs, h1, h2, h3, h4⟩ := ih has (Cm.den_bind h)
          exact ⟨((), ys), a :: bs, h1, by simp [h2], le (.same _) h3, fun ι0 hι => .cons (refsFit_one hι hf ha) (h4 ι0 hι)⟩
        · exact h.elim
      | row c i =>
        simp only at h
        split at h
        · rename_i c' o off len cap
          split at h
          · rename_i o' hc hn
            have := nbeq_true hc
            subst this
            split at h
            · rename_i ho
              have := nbeq_true ho
              subst this
              obtain ⟨ys, bs, h1, h2, h3, h4⟩ := ih has (Cm.den_bind h)
              refine ⟨(len, ys), a :: bs, h1, by simp [h2], le (.same _) h3, fun ι0 hι => .cons ?_ (h4 ι0 hι)⟩
              rw [nth_get] at hn
              have h0 := hι i o hn
              cases ha with
              | sl ho2 hk hc2 =>
                refine .sl ?_ hk (.inr rfl)
                rw [h0]; simp [whereO, ho2]
              | slNil ho2 hc2 ha2 =>
                refine .slNil ?_ (.inl rfl) ha2
                rw [h0]; simp [whereO, ho2]
            · exact h.elim
          · exact h.elim
        · exact h.elim
theorem encCells_notag : ∀ {ks : List CK} {x : CTup Θ ks} {n : Nat} {i : Nat} {z : SO Θ}, (encCells ks x n).2[i]? = some z -> ∀ q t, z ≠ .tag q t := by
  intro ks
  induction ks with
  | nil => intro x n i z h; simp [encCells] at h
  | cons k ks ih =>
    intro x n i z h
    cases k <;> simp only [encCells] at h
    case v => exact ih h
    case ref => exact ih h
    case fn => exact ih h
    all_goals
      cases i with
      | zero => simp at h; subst h; intro q t h; cases h
      | succ i => exact ih (by simpa using h)
theorem encRoots_notag : ∀ {ks : List OK} {x : OTup Θ ks} {n : Nat}, (∀ {i : Nat} {z : SO Θ}, (encRoots ks x n).1[i]? = some z -> ∀ q t, z ≠ .tag q t) ∧ (∀ {i : Nat} {z : SO Θ}, (encRoots ks x n).2[i]? = some z -> ∀ q t, z ≠ .tag q t) ∧ (encRoots ks x n).1.length = ks.length := by
  intro ks
  induction ks with
  | nil => intro x n; exact ⟨fun h => by simp [encRoots] at h, fun h => by simp [encRoots] at h, rfl⟩
  | cons k ks ih =>
    intro x n
    cases k with
    | box cs =>
      obtain ⟨h1, h2, h3⟩ := ih (x := x.2) (n := n + ownsC cs)
      refine ⟨fun {i z} h => ?_, fun {i z} h => ?_, by simp [encRoots, h3]⟩
      · simp only [encRoots] at h
        cases i with
        | zero => simp at h; subst h; intro q t h; cases h
        | succ i => exact h1 (by simpa using h)
      · simp only [encRoots] at h
        rcases Nat.lt_or_ge i (encCells cs x.1 n).2.length with hi | hi
        · rw [List.getElem?_append_left hi] at h; exact encCells_notag h
        · rw [List.getElem?_append_right hi] at h; exact h2 h
    | row c =>
      obtain ⟨h1, h2, h3⟩ := ih (x := x.2) (n := n)
      refine ⟨fun {i z} h => ?_, fun {i z} h => ?_, by simp [encRoots, h3]⟩
      · simp only [encRoots] at h
        cases i with
        | zero => simp at h; subst h; intro q t h; cases h
        | succ i => exact h1 (by simpa using h)
      · simp only [encRoots] at h; exact h2 h
    | map c d =>
      obtain ⟨h1, h2, h3⟩ := ih (x := x.2) (n := n)
      refine ⟨fun {i z} h => ?_, fun {i z} h => ?_, by simp [encRoots, h3]⟩
      · simp only [encRoots] at h
        cases i with
        | zero => simp at h; subst h; intro q t h; cases h
        | succ i => exact h1 (by simpa using h)
      · simp only [encRoots] at h; exact h2 h
theorem encRes_notag : ∀ {ks : List RK} {x : RTup Θ ks} {n : Nat} {i : Nat} {z : SO Θ}, (encRes G ks x n).2[i]? = some z -> ∀ q t, z ≠ .tag q t := by
  intro ks
  induction ks with
  | nil => intro x n i z h; simp [encRes] at h
  | cons k ks ih =>
    intro x n i z h
    cases k <;> simp only [encRes] at h
    case p => exact ih h
    case ref => exact ih h
    case row =>
      cases i with
      | zero => simp at h; subst h; intro q t h; cases h
      | succ i => exact ih (by simpa using h)
theorem encOut_ok {ks : List OK} {x : OTup Θ ks} {rs : List RK} {y : RTup Θ rs} : ks.length <= (encOut G ks x rs y).length ∧ ∀ (i : Nat) (z : SO Θ), (encOut G ks x rs y)[i]? = some z -> ∀ q t, z ≠ .tag q t := by
  obtain ⟨h1, h2, h3⟩ := encRoots_notag (ks := ks) (x := x) (n := ks.length)
  refine ⟨by simp [encOut, h3], fun i z h => ?_⟩
  unfold encOut at h
  rcases Nat.lt_or_ge i (encRoots ks x ks.length).1.length with hi | hi
  · rw [List.getElem?_append_left hi] at h; exact h1 h
  · rw [List.getElem?_append_right hi] at h
    generalize i - (encRoots ks x ks.length).1.length = j at h
    rcases Nat.lt_or_ge j (encRoots ks x ks.length).2.length with hj | hj
    · rw [List.getElem?_append_left hj] at h; exact h2 h
    · rw [List.getElem?_append_right hj] at h; exact encRes_notag h
theorem effE_ok (g : CodGOk G) {f : Nat} {ks : List OK} {es : List EA} {rs : List RK} {F : ETup Θ es -> OTup Θ ks -> Option (RTup Θ rs × OTup Θ ks)}
    (hF : ∀ y x r, F y x = some r -> ECall P G f ks (encE G es y) x rs (fun a b => (a, b) = r)) : EffOk P G.cod f (effE G ks es rs F) := by
  intro args S Q h A ι as H hargs r
  unfold effE at h
  obtain ⟨x, ow, h1, how, hasl, hl1, hl2, hfit⟩ := readRoots_rv r (Cm.den_bind h)
  simp only at h1
  obtain ⟨y, bs, h2, hbl, hle, hrv⟩ := readE_rv g hargs (Cm.den_bind h1)
  generalize hasg : asgE es args = asg at *
  split at h2
  · rename_i hnd htag
    cases hFr : F y x with
    | none => rw [hFr] at h2; obtain ⟨_, h3, _⟩ := h2; cases h3
    | some z =>
      rw [hFr] at h2
      have hQ : Q ((outV G ks rs z.1).mapO (asg ++ upFrom S.length ((encOut G ks z.2 rs z.1).length - asg.length)), behindS asg ow (encOut G ks z.2 rs z.1) S) := by
        obtain ⟨_, h3, h4⟩ := h2
        cases h3
        exact h4
      refine ⟨_, _, hQ, ?_⟩
      have hlive : ∀ o, some o ∈ asg.map some ++ ow -> LiveO S o := by
        intro o ho
        rcases List.mem_append.1 ho with ho | ho
        · obtain ⟨o', k1, k2⟩ := List.mem_map.1 ho
          cases k2; exact hl2 o k1
        · exact hl1 o ho
      have hι : AsgOk ι ((asg.map some ++ ow).map (whereO ι)) asg := by
        intro i o hi
        have := getElem?_lt hi
        rw [List.getElem?_map, List.getElem?_append_left (by simpa using this), List.getElem?_map, hi]
        rfl
      have hat : At0 ι ((asg.map some ++ ow).map (whereO ι)) ks.length ow := by
        intro k o hk
        rw [List.getElem?_map, List.getElem?_append_right (by simp [hasl]), List.length_map, hasl, Nat.add_sub_cancel_left, hk]
        rfl
      obtain ⟨f1, f2⟩ := hfit _ ks.length hι hat
      have hRH : RH G.cod (baseOf ι H asg ow) ((asg.map some ++ ow).map (whereO ι)) (encH ks x) H := by
        refine enc_RH r (f1.app f2) hlive hnd (fun i p hi => .inr ?_) (Nat.le_refl _) (fun _ _ _ => rfl) (fun i q hq => ?_)
        · rw [List.getElem?_map, Option.map_eq_some_iff] at hi
          obtain ⟨q, k1, k2⟩ := hi
          cases q with
          | none => cases k2
          | some o =>
            refine ⟨o, List.mem_of_getElem? k1, ?_⟩
            simp only [whereO] at k2
            cases k3 : ι[o]? with
            | none => rw [k3] at k2; cases k2
            | some y => rw [k3] at k2; simp at k2; rw [k2]
        · simp only [baseOf, List.getElem?_map, Option.map_eq_some_iff] at hq
          obtain ⟨o, k1, rfl⟩ := hq
          exact hι i o k1
      have hE := hF y x z hFr (baseOf ι H asg ow) _ bs H (by simp [baseOf, hasl]) (hrv _ hι) hRH
      refine (hE.weaken hbl hle).mono ?_
      rintro v H' ⟨y', x', ι', hK, hv, hr⟩
      have hK : (y', x') = z := hK
      subst hK
      obtain ⟨k1, k2⟩ := encOut_ok (G := G) (ks := ks) (x := x') (rs := rs) (y := y')
      obtain ⟨b1, b2⟩ := behind_RH r hlive hnd htag hr (by rw [hasl]; exact k1) k2
      exact ⟨_, b2 hv, b1⟩
  · exact h2.elim
noncomputable def limF {α β : Type} (F : Nat -> α -> Option β) (a : α) : Option β := open Classical in if h : ∃ r n, F n a = some r then some h.choose else none
theorem limF_some {α β : Type} {F : Nat -> α -> Option β} {a : α} {r : β} (h : limF F a = some r) : ∃ n, F n a = some r := by
  unfold limF at h
  split at h
  · rename_i hh
    cases h
    exact hh.choose_spec
  · cases h
theorem limF_of {α β : Type} {F : Nat -> α -> Option β} {a : α} {r : β} {n : Nat} (h : F n a = some r) (hu : ∀ m q, F m a = some q -> q = r) : limF F a = some r := by
  unfold limF
  have hh : ∃ r n, F n a = some r := ⟨r, n, h⟩
  rw [dif_pos hh]
  obtain ⟨m, hm⟩ := hh.choose_spec
  rw [hu m _ hm]
end
end Go.Ab
