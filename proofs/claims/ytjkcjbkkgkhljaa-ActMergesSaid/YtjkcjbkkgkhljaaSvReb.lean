/- A part of a law's proof: SvReb. -/
import Derived.Test.YtjkcjbkkgkhljaaSvRun
set_option linter.constructorNameAsVariable false
/-
  What is known of memory may be told anew: a row of which only a tail is still held becomes that tail, as an object of its own.
-/
namespace Go.Ab
open Go Go.RowKit
set_option linter.unusedVariables false
set_option linter.unusedSimpArgs false
def Lies.tail (β : Lies) (o k n : Nat) : Lies := Em.set β n ⟨(β o).blk, (β o).off + k, (β o).tot - k⟩
def tailH (H : Heap) (o k : Nat) (cs : List AV) : Heap := H.set o .dead ++ [.cells (cs.drop k)]
inductive RbP (o k n : Nat) : AV -> AV -> Prop
  | same (a : AV) : RbP o k n a a
  | agg {cs ds : List AV} (hl : ds.length = cs.length) (h : ∀ (i : Nat) (a b : AV), cs[i]? = some a -> ds[i]? = some b -> RbP o k n a b) : RbP o k n (.agg cs) (.agg ds)
  | tup {cs ds : List AV} (hl : ds.length = cs.length) (h : ∀ (i : Nat) (a b : AV), cs[i]? = some a -> ds[i]? = some b -> RbP o k n a b) : RbP o k n (.tup cs) (.tup ds)
  | fn {f : FuncId} {cs ds : List AV} (hl : ds.length = cs.length) (h : ∀ (i : Nat) (a b : AV), cs[i]? = some a -> ds[i]? = some b -> RbP o k n a b) : RbP o k n (.fn f cs) (.fn f ds)
  | ifc {t : TypeId} {a b : AV} (h : RbP o k n a b) : RbP o k n (.ifc t a) (.ifc t b)
  | sl {sz off len : Nat} {cap : Option Nat} (h : k <= off) : RbP o k n (.sl sz o off len cap) (.sl sz n (off - k) len cap)
section
variable {B : Nat} {β : Lies} {H : Heap} {w : World}
theorem Sim.tail (s : Sim B β H w) {o k : Nat} {cs : List AV} (ho : H[o]? = some (.cells cs)) (hk : k <= cs.length) :
    Sim B (β.tail o k H.length) (tailH H o k cs) w ∧ Tr B β H w (β.tail o k H.length) (tailH H o k cs) w := by
  have holt := getElem?_lt ho
  obtain ⟨b1, b2, b3⟩ := s.base o cs ho
  have en : β.tail o k H.length H.length = ⟨(β o).blk, (β o).off + k, (β o).tot - k⟩ := Em.set_same _ _ _
  have elt : ∀ {q : Nat}, q < H.length -> β.tail o k H.length q = β q := fun h => Em.set_lt _ _ h
  have get : ∀ {q : Nat} {x : AObj}, (tailH H o k cs)[q]? = some x -> (q = o ∧ x = .dead) ∨ (q ≠ o ∧ q < H.length ∧ H[q]? = some x) ∨ (q = H.length ∧ x = .cells (cs.drop k)) := by
    intro q x h
    unfold tailH at h
    rcases get_push h with ⟨h1, h2⟩ | ⟨h1, h2⟩
    · simp only [List.length_set] at h1
      rcases get_set h2 with ⟨e, he⟩ | ⟨e, he⟩
      · exact .inl ⟨e, he.symm⟩
      · exact .inr (.inl ⟨e, h1, he⟩)
    · simp only [List.length_set] at h1
      exact .inr (.inr ⟨h1, h2.symm⟩)
  have hown : ∀ b i, Owned (β.tail o k H.length) (tailH H o k cs) b i -> Owned β H b i := by
    rintro b i ⟨q, ds, hq, h1, h2, h3⟩
    rcases get hq with ⟨_, he⟩ | ⟨_, hlt, he⟩ | ⟨he, _⟩
    · cases he
    · rw [elt hlt] at h1 h2 h3; exact ⟨q, ds, he, h1, h2, h3⟩
    · subst he
      rw [en] at h1 h2 h3
      simp only at h1 h2 h3
      exact ⟨o, cs, ho, h1, by omega, by omega⟩
  have tr : Tr B β H w (β.tail o k H.length) (tailH H o k cs) w := ⟨Below.refl _ _, by simp [tailH], fun q hq => elt hq, fun b i c h => ⟨h.1, fun x => h.2 (hown b i x)⟩, rfl, fun b _ hn => ⟨rfl, fun hv => hn (by
    obtain ⟨q, x, hq, hx, hbb⟩ := hv
    rcases get hq with ⟨_, rfl⟩ | ⟨_, hlt, he⟩ | ⟨rfl, _⟩
    · cases hx
    · rw [elt hlt] at hbb; exact ⟨q, x, he, hx, hbb⟩
    · rw [en] at hbb; exact ⟨o, _, ho, rfl, hbb⟩)⟩⟩
  refine ⟨⟨s.size, (fun q ds hq i => by
      rcases get hq with ⟨_, he⟩ | ⟨_, hlt, he⟩ | ⟨rfl, _⟩
      · cases he
      · rw [elt hlt]; exact s.nodd q ds he i
      · rw [en]; exact s.nodd o cs ho i), ?_, ?_, ?_, ?_, ?_, ?_, ?_, ?_⟩, tr⟩
  · intro q ds hq
    rcases get hq with ⟨_, he⟩ | ⟨_, hlt, he⟩ | ⟨he, hd⟩
    · cases he
    · rw [elt hlt]; exact s.base q ds he
    · subst he; cases hd
      rw [en]
      exact ⟨b1, b2, by simp; omega⟩
  · intro q ds j a hq ha
    rcases get hq with ⟨_, he⟩ | ⟨_, hlt, he⟩ | ⟨he, hd⟩
    · cases he
    · rw [elt hlt]
      obtain ⟨c, hc, hr⟩ := s.cell q ds j a he ha
      exact ⟨c, hc, tr.rep hr⟩
    · subst he; cases hd
      rw [en]
      rw [List.getElem?_drop] at ha
      obtain ⟨c, hc, hr⟩ := s.cell o cs (k + j) a ho ha
      exact ⟨c, by rw [Nat.add_assoc]; exact hc, tr.rep hr⟩
  · intro q ds j hq hj
    rcases get hq with ⟨_, he⟩ | ⟨_, hlt, he⟩ | ⟨he, hd⟩
    · cases he
    · rw [elt hlt] at hj ⊢; exact s.room q ds j he hj
    · subst he; cases hd
      rw [en] at hj ⊢
      simp only at hj ⊢
      rw [Nat.add_assoc]; exact s.room o cs (k + j) ho (by omega)
  · intro q es hq
    rcases get hq with ⟨_, he⟩ | ⟨_, hlt, he⟩ | ⟨he, hd⟩
    · cases he
    · rw [elt hlt]
      obtain ⟨hb, ents, clock, he, hl', hrep⟩ := s.map q es he
      exact ⟨hb, ents, clock, he, hl', fun i a b e hi hj => ⟨tr.rep (hrep i a b e hi hj).1, tr.rep (hrep i a b e hi hj).2⟩⟩
    · cases hd
  · intro q q' ds ds' hne h1 h2 hb
    rcases get h1 with ⟨_, he⟩ | ⟨n1, l1, h1⟩ | ⟨h1, _⟩
    · cases he
    · rcases get h2 with ⟨_, he⟩ | ⟨n2, l2, h2⟩ | ⟨h2, _⟩
      · cases he
      · rw [elt l1, elt l2] at hb; exact s.disj q q' ds ds' hne h1 h2 hb
      · subst h2; rw [elt l1, en] at hb; exact s.disj q o ds cs n1 h1 ho hb
    · subst h1
      rcases get h2 with ⟨_, he⟩ | ⟨n2, l2, h2⟩ | ⟨h2, _⟩
      · cases he
      · rw [elt l2, en] at hb; exact s.disj o q' cs ds' (Ne.symm n2) ho h2 hb
      · exact absurd h2.symm hne
  · intro q q' es es' hne h1 h2
    rcases get h1 with ⟨_, he⟩ | ⟨n1, l1, h1⟩ | ⟨_, hd⟩
    · cases he
    · rcases get h2 with ⟨_, he⟩ | ⟨n2, l2, h2⟩ | ⟨_, hd⟩
      · cases he
      · rw [elt l1, elt l2]; exact s.mdisj q q' es es' hne h1 h2
      · cases hd
    · cases hd
  · intro q o' t hq
    rcases get hq with ⟨_, he⟩ | ⟨_, hlt, he⟩ | ⟨_, hd⟩
    · cases he
    · obtain ⟨h1, h2⟩ := s.tag q o' t he
      rw [elt h1]
      exact ⟨by simp [tailH]; omega, h2⟩
    · cases hd
  · intro q ds t' n hq hsh
    rcases get hq with ⟨_, he⟩ | ⟨_, hlt, he⟩ | ⟨he, hd⟩
    · cases he
    · rw [elt hlt] at hsh ⊢; exact s.clean q ds t' n he hsh
    · subst he; cases hd
      rw [en] at hsh ⊢
      exact s.clean o cs t' n ho hsh
theorem RbP.rep (s : Sim B β H w) {o k : Nat} {cs : List AV} (ho : H[o]? = some (.cells cs)) (hk : k <= cs.length) {a b : AV} (f : RbP o k H.length a b) :
    ∀ {c : Value}, RepH β H w a c -> RepH (β.tail o k H.length) (tailH H o k cs) w b c := by
  have tr := (s.tail ho hk).2
  have hlen : H.length < (tailH H o k cs).length := by simp [tailH]
  have hb3 := (s.base o cs ho).2.2
  induction f with
  | same a => exact fun hr => tr.rep hr
  | @agg cs ds hl _ ih =>
    intro c hr
    cases hr with
    | agg hl' h' =>
      refine .agg (by omega) fun i b c hb hc => ?_
      have hi : i < cs.length := by have := getElem?_lt hb; omega
      exact ih i cs[i] b (by simp) hb (h' i cs[i] c (by simp) hc)
  | @tup cs ds hl _ ih =>
    intro c hr
    cases hr with
    | tup hl' h' =>
      refine .tup (by omega) fun i b c hb hc => ?_
      have hi : i < cs.length := by have := getElem?_lt hb; omega
      exact ih i cs[i] b (by simp) hb (h' i cs[i] c (by simp) hc)
  | @fn f cs ds hl _ ih =>
    intro c hr
    cases hr with
    | fn hl' h' =>
      refine .fn (by omega) fun i b c hb hc => ?_
      have hi : i < cs.length := by have := getElem?_lt hb; omega
      exact ih i cs[i] b (by simp) hb (h' i cs[i] c (by simp) hc)
  | ifc _ ih =>
    intro c hr
    cases hr with
    | ifc hr' => exact .ifc (ih hr')
  | @sl sz off len cap hko =>
    intro c hr
    have en : β.tail o k H.length H.length = ⟨(β o).blk, (β o).off + k, (β o).tot - k⟩ := Em.set_same _ _ _
    cases hr with
    | slZero p _ hc =>
      refine .slZero p hlen ?_
      rcases hc with ⟨h1, h2⟩ | h
      · exact .inl ⟨h1, by rw [en]; simp only; omega⟩
      · exact .inr h
    | @sl _ _ _ _ cap' _ holt hlc hc hn =>
      have := Rep.sl (β := β.tail o k H.length) (n := (tailH H o k cs).length) (R := RO (β.tail o k H.length) (tailH H o k cs) w) (sz := sz) (o := H.length) (off := off - k) (len := len) (cap' := cap') (cap := cap) hlen hlc
        (fun c h => by
          obtain ⟨h1, h2⟩ := hc c h
          rw [en]; exact ⟨h1, by simp only; omega⟩)
        (fun h => by
          have := hn h
          rw [en]; simp only; omega)
      rw [en] at this
      simp only at this
      rw [show (β o).off + k + (off - k) = (β o).off + off from by omega] at this
      exact this
theorem NormS.tail {N : Nat} {e e' : Env} {o k : Nat} {cs : List AV} (ho : H[o]? = some (.cells cs)) (hk : k <= cs.length) (he : ∀ t, RbP o k H.length (e t) (e' t)) : NormS N ⟨e, H⟩ ⟨e', tailH H o k cs⟩ := by
  intro B β a w hr
  obtain ⟨s1, t1⟩ := hr.sim.tail ho hk
  exact ⟨β.tail o k H.length, ⟨s1, fun t => (he t).rep hr.sim ho hk (hr.rep t), hr.defers, hr.size⟩, t1⟩
end
variable {Θ : Nat -> Type}
def rbV (o c k n : Nat) : SV Θ -> SV Θ
  | .sl c' o' off len cap => match Nat.beq o' o, Nat.beq c' c, Nat.ble k off with
    | true, true, true => .sl c n (off - k) len cap
    | _, _, _ => .sl c' o' off len cap
  | .agg cs => .agg (rbL o c k n cs)
  | .tup cs => .tup (rbL o c k n cs)
  | .fn f cs => .fn f (rbL o c k n cs)
  | .ifc t x => .ifc t (rbV o c k n x)
  | x => x
where
  rbL (o c k n : Nat) : List (SV Θ) -> List (SV Θ)
  | [] => []
  | x :: r => rbV o c k n x :: rbL o c k n r
def rbEnv (o c k n : Nat) : SEnv Θ -> SEnv Θ
  | [] => []
  | (t, x) :: r => (t, rbV o c k n x) :: rbEnv o c k n r
def rebase (o k : Nat) (ρ : SEnv Θ) (S : SHeap Θ) : Cm (SEnv Θ × SHeap Θ) :=
  match k with
  | 0 => .ret (ρ, S)
  | _ + 1 => match sNth S o with
    | some (.arr c xs) => .chk (k <= xs.length) (.ret (rbEnv o c k S.length ρ, S.set o .dead ++ [.arr c (xs.drop k)]))
    | _ => .ret (ρ, S)
def rebaseL : List (Nat × Nat) -> SEnv Θ -> SHeap Θ -> Cm (SEnv Θ × SHeap Θ)
  | [], ρ, S => .ret (ρ, S)
  | (o, k) :: os, ρ, S => (rebase o k ρ S).bind fun r => rebaseL os r.1 r.2
def tails (ρ : SEnv Θ) : List Nat -> List (Nat × Nat)
  | [] => []
  | t :: ts => match ρ.get t with
    | .sl _ o off _ _ => match off with
      | 0 => tails ρ ts
      | _ + 1 => (o, off) :: tails ρ ts
    | _ => tails ρ ts
section
variable {C : Cod Θ} {ι : Emb} {A : Base} {S : SHeap Θ} {H : Heap}
theorem rbL_map (o c k n : Nat) (l : List (SV Θ)) : rbV.rbL o c k n l = l.map (rbV o c k n) := by
  induction l with
  | nil => rfl
  | cons x l ih => simp [rbV.rbL, ih]
theorem rbEnv_get {o c k n : Nat} : ∀ {ρ : SEnv Θ} (t : Nat), (rbEnv o c k n ρ).get t = rbV o c k n (ρ.get t) := by
  intro ρ
  induction ρ with
  | nil => intro t; rfl
  | cons p ρ ih =>
    intro t
    obtain ⟨j, x⟩ := p
    simp only [rbEnv, SEnv.get]
    split
    · rfl
    · exact ih t
theorem rb_rv {o c k p m : Nat} (ho : ι[o]? = some (some p)) {x : SV Θ} {a : AV} (h : RV C ι x a) :
    ∃ b, RbP p (k * C.sz c) m a b ∧ RV C (ι ++ [some m]) (rbV o c k ι.length x) b := by
  have list : ∀ {cs : List (SV Θ)} {as : List AV}, cs.length = as.length -> (∀ (i : Nat) (x : SV Θ) (a : AV), cs[i]? = some x -> as[i]? = some a -> ∃ b, RbP p (k * C.sz c) m a b ∧ RV C (ι ++ [some m]) (rbV o c k ι.length x) b) ->
      ∃ bs : List AV, bs.length = as.length ∧ (∀ (i : Nat) (a b : AV), as[i]? = some a -> bs[i]? = some b -> RbP p (k * C.sz c) m a b) ∧ RVs C (ι ++ [some m]) (rbV.rbL o c k ι.length cs) bs := by
    intro cs as hl hh
    obtain ⟨bs, h1, h2⟩ := list_choose (l := as) (R := fun i a b => RbP p (k * C.sz c) m a b ∧ ∀ x, cs[i]? = some x -> RV C (ι ++ [some m]) (rbV o c k ι.length x) b) (fun i a ha => by
      have hi : i < cs.length := by have := getElem?_lt ha; omega
      obtain ⟨b, k1, k2⟩ := hh i cs[i] a (by simp [hi]) ha
      exact ⟨b, k1, fun x hx => by simp [hi] at hx; subst hx; exact k2⟩)
    refine ⟨bs, h1, fun i a b ha hb => (h2 i a b ha hb).1, by simp [rbL_map, hl, h1], fun i y b hy hb => ?_⟩
    rw [rbL_map, List.getElem?_map, Option.map_eq_some_iff] at hy
    obtain ⟨x, hx, rfl⟩ := hy
    have hi : i < as.length := by have := getElem?_lt hb; omega
    exact (h2 i as[i] b (by simp [hi]) hb).2 x hx
  induction h with
  | agg hl _ ih => obtain ⟨bs, h1, h2, h3⟩ := list hl ih; exact ⟨_, .agg h1 h2, .agg h3.1 h3.2⟩
  | tup hl _ ih => obtain ⟨bs, h1, h2, h3⟩ := list hl ih; exact ⟨_, .tup h1 h2, .tup h3.1 h3.2⟩
  | fn hl _ ih => obtain ⟨bs, h1, h2, h3⟩ := list hl ih; exact ⟨_, .fn h1 h2, .fn h3.1 h3.2⟩
  | ifc _ ih => obtain ⟨b, h1, h2⟩ := ih; exact ⟨_, .ifc h1, .ifc h2⟩
  | @sl c' o' off len cap acap q ho' hk hc =>
    simp only [rbV]
    split
    · rename_i e1 e2 e3
      have e1 := nbeq_true e1
      have e2 := nbeq_true e2
      have e3 := Nat.le_of_ble_eq_true e3
      subst e1; subst e2
      rw [ho'] at ho
      cases ho
      refine ⟨_, .sl (Nat.mul_le_mul_right _ e3), ?_⟩
      rw [<- Nat.sub_mul]
      exact .sl (by simp) hk hc
    · exact ⟨_, .same _, .sl (Emb.ext ho') hk hc⟩
  | @slNil c' o' cap a ho' hc ha =>
    simp only [rbV]
    split
    · rename_i e1 e2 e3
      have e1 := nbeq_true e1
      subst e1
      rw [ho'] at ho; cases ho
    · exact ⟨_, .same _, .slNil (Emb.ext ho') hc ha⟩
  | self0 => exact ⟨_, .same _, .self0⟩
  | self1 ho1 => exact ⟨_, .same _, .self1 (Emb.ext ho1)⟩
  | sd0 ho1 => exact ⟨_, .same _, .sd0 (Emb.ext ho1)⟩
  | sd1 ho1 => exact ⟨_, .same _, .sd1 (Emb.ext ho1)⟩
  | bl0 ho1 => exact ⟨_, .same _, .bl0 (Emb.ext ho1)⟩
  | bl1 ho1 hk1 => exact ⟨_, .same _, .bl1 (Emb.ext ho1) hk1⟩
  | any a => exact ⟨a, .same _, .any _⟩
  | i k x => exact ⟨_, .same _, .i _ _⟩
  | b x => exact ⟨_, .same _, .b _⟩
  | kb x => exact ⟨_, .same _, .kb _⟩
  | s l => exact ⟨_, .same _, .s _⟩
  | v x => exact ⟨_, .same _, .v _⟩
  | lst c xs => exact ⟨_, .same _, .lst _ _⟩
  | rp h _ => exact ⟨_, .same _, .rp (h.mono _)⟩
  | z0 => exact ⟨_, .same _, .z0⟩
  | ptr ho => exact ⟨_, .same _, .ptr (Emb.ext ho)⟩
  | eptr ho => exact ⟨_, .same _, .eptr (Emb.ext ho)⟩
  | mp ho => exact ⟨_, .same _, .mp (Emb.ext ho)⟩
theorem rebase_sound (ok : CodOk C) {N o k : Nat} {ρ : SEnv Θ} {e : Env} (r : RH C A ι S H) (he : RE C ι ρ e) {K : SEnv Θ × SHeap Θ -> Prop} (h : (rebase o k ρ S).den K) :
    ∃ ρ' S' e' H' L, NormS N ⟨e, H⟩ ⟨e', H'⟩ ∧ RH C A (ι ++ L) S' H' ∧ RE C (ι ++ L) ρ' e' ∧ K (ρ', S') := by
  unfold rebase at h
  split at h
  · exact ⟨ρ, S, e, H, [], .refl _ _, by simpa using r, by simpa using he, h⟩
  rename_i k
  split at h
  rotate_left
  · exact ⟨ρ, S, e, H, [], .refl _ _, by simpa using r, by simpa using he, h⟩
  rename_i c xs hS
  rw [nth_get] at hS
  obtain ⟨hle, hK⟩ := h
  have holt := getElem?_lt hS
  obtain ⟨q, hq⟩ : ∃ q, ι[o]? = some q := ⟨ι[o]'(by rw [r.len]; exact holt), by simp [r.len, holt]⟩
  cases q with
  | none =>
    rcases r.nil o _ hq hS with h | ⟨c', h⟩ | ⟨q, t, h⟩
    · cases h
    · cases h; simp at hle
    · cases h
  | some p =>
    rcases r.obj o p _ hq hS with h | ⟨y, hy, hr⟩
    · cases h
    cases hr with
    | arr _ _ ext =>
      have hk : (k + 1) * C.sz c <= (C.flat c xs ++ ext).length := by
        have : (k + 1) * C.sz c <= xs.length * C.sz c := Nat.mul_le_mul_right _ hle
        simp [flat_length ok]; omega
      have envc := fun t => rb_rv (C := C) (k := k + 1) (c := c) (m := H.length) hq (he t)
      let e' : Env := fun t => (envc t).choose
      have he' : ∀ t, RbP p ((k + 1) * C.sz c) H.length (e t) (e' t) ∧ RV C (ι ++ [some H.length]) (rbV o c (k + 1) ι.length (ρ.get t)) (e' t) := fun t => (envc t).choose_spec
      have r1 := r.kill o
      have r2 := r1.drop hq (by rw [List.getElem?_set_self holt]) (fun o' hne h1 => by
        rcases r.inj o' o p h1 hq with h | h | h
        · exact absurd h hne
        · rw [List.getElem?_set_ne (Ne.symm hne)]; exact h
        · rw [hS] at h; cases h) hy .dead
      have r3 := r2.push (x := .arr c (xs.drop (k + 1))) (y := .cells (C.flat c (xs.drop (k + 1)) ++ ext)) (.arr _ _ _)
      simp only [List.length_set] at r3
      refine ⟨_, _, e', _, [some H.length], NormS.tail hy hk fun t => (he' t).1, ?_, fun t => ?_, hK⟩
      · unfold tailH
        rw [flat_drop ok xs (k + 1) hle]
        exact r3
      · rw [rbEnv_get, <- r.len]; exact (he' t).2
theorem rebaseL_sound (ok : CodOk C) {N : Nat} : ∀ {os : List (Nat × Nat)} {ι : Emb} {ρ : SEnv Θ} {e : Env} {S : SHeap Θ} {H : Heap}, RH C A ι S H -> RE C ι ρ e -> ∀ {K : SEnv Θ × SHeap Θ -> Prop}, (rebaseL os ρ S).den K ->
    ∃ ρ' S' e' H' L, NormS N ⟨e, H⟩ ⟨e', H'⟩ ∧ RH C A (ι ++ L) S' H' ∧ RE C (ι ++ L) ρ' e' ∧ K (ρ', S') := by
  intro os
  induction os with
  | nil => intro ι ρ e S H r he K h; exact ⟨ρ, S, e, H, [], .refl _ _, by simpa using r, by simpa using he, h⟩
  | cons p os ih =>
    intro ι ρ e S H r he K h
    obtain ⟨o, k⟩ := p
    obtain ⟨ρ1, S1, e1, H1, L1, h1, h2, h3, h5⟩ := rebase_sound ok (N := N) r he (Cm.den_bind h)
    obtain ⟨ρ2, S2, e2, H2, L2, k1, k2, k3, k5⟩ := ih h2 h3 h5
    exact ⟨ρ2, S2, e2, H2, L1 ++ L2, h1.trans k1, by rw [<- List.append_assoc]; exact k2, by rw [<- List.append_assoc]; exact k3, k5⟩
end
end Go.Ab
