/- A part of a law's proof: ActSo16. -/
import Derived.Test.YtjkcjbkkgkhljaaActM1
import Derived.Test.YtjkcjbkkgkhljaaSvPlain
import Init
set_option linter.constructorNameAsVariable false
/-
  Stable sorts: which lists are in order, and which have the same elements of each kind in the same order.
-/
namespace Go.Proofs.Act
set_option linter.unusedVariables false
section
variable {α : Type}
structure Ord (lt : α -> α -> Bool) : Prop where
  irr : ∀ a, lt a a = false
  tr : ∀ a b c, lt a b = true -> lt b c = true -> lt a c = true
  co : ∀ a b c, lt a c = true -> lt a b = true ∨ lt b c = true
def eqv (lt : α -> α -> Bool) (x y : α) : Bool := !lt x y && !lt y x
def Srt (lt : α -> α -> Bool) (l : List α) : Prop := l.Pairwise fun a b => lt b a = false
def Stab (lt : α -> α -> Bool) (l m : List α) : Prop := l.length = m.length ∧ ∀ x, l.filter (eqv lt x) = m.filter (eqv lt x)
variable {lt : α -> α -> Bool}
theorem Stab.refl (l : List α) : Stab lt l l := ⟨rfl, fun _ => rfl⟩
theorem Stab.symm {l m : List α} (h : Stab lt l m) : Stab lt m l := ⟨h.1.symm, fun x => (h.2 x).symm⟩
theorem Stab.trans {l m n : List α} (h : Stab lt l m) (k : Stab lt m n) : Stab lt l n := ⟨h.1.trans k.1, fun x => (h.2 x).trans (k.2 x)⟩
theorem Stab.app {l m l' m' : List α} (h : Stab lt l m) (k : Stab lt l' m') : Stab lt (l ++ l') (m ++ m') :=
  ⟨by simp [h.1, k.1], fun x => by rw [List.filter_append, List.filter_append, h.2 x, k.2 x]⟩
theorem Stab.mid {l m : List α} (h : Stab lt l m) (p q : List α) : Stab lt (p ++ (l ++ q)) (p ++ (m ++ q)) := (Stab.refl p).app (h.app (Stab.refl q))
theorem Ord.le_trans (o : Ord lt) {a b c : α} (h : lt b a = false) (k : lt c b = false) : lt c a = false := by
  cases hc : lt c a with
  | false => rfl
  | true => rcases o.co c b a hc with h' | h' <;> simp_all
theorem Ord.lt_le (o : Ord lt) {a b c : α} (h : lt a b = true) (k : lt c b = false) : lt a c = true := by
  rcases o.co a c b h with h' | h'
  · exact h'
  · rw [h'] at k; cases k
theorem Ord.asymm (o : Ord lt) {a b : α} (h : lt a b = true) : lt b a = false := by
  cases hc : lt b a with
  | false => rfl
  | true => have := o.tr a b a h hc; rw [o.irr a] at this; cases this
theorem eqv_iff {x y : α} : eqv lt x y = true ↔ lt x y = false ∧ lt y x = false := by
  unfold eqv; cases lt x y <;> cases lt y x <;> simp
theorem Stab.turn (o : Ord lt) {u v : List α} (h : ∀ a ∈ u, ∀ b ∈ v, lt b a = true) : Stab lt (u ++ v) (v ++ u) := by
  refine ⟨by simp [Nat.add_comm], fun x => ?_⟩
  rw [List.filter_append, List.filter_append]
  by_cases hu : ∃ a ∈ u, eqv lt x a = true
  · obtain ⟨a, ha, hxa⟩ := hu
    have hv : v.filter (eqv lt x) = [] := by
      rw [List.filter_eq_nil_iff]
      intro b hb hxb
      have h1 := h a ha b hb
      obtain ⟨k1, k2⟩ := eqv_iff.1 hxa
      obtain ⟨k3, k4⟩ := eqv_iff.1 hxb
      rcases o.co b x a h1 with h' | h' <;> simp_all
    rw [hv, List.append_nil, List.nil_append]
  · have : u.filter (eqv lt x) = [] := by
      rw [List.filter_eq_nil_iff]
      exact fun a ha hx => hu ⟨a, ha, hx⟩
    rw [this, List.append_nil, List.nil_append]
theorem Stab.mem (o : Ord lt) {l m : List α} (h : Stab lt l m) {x : α} : x ∈ l ↔ x ∈ m := by
  have hx : eqv lt x x = true := eqv_iff.2 ⟨o.irr x, o.irr x⟩
  constructor
  · intro hm
    have : x ∈ m.filter (eqv lt x) := by rw [<- h.2 x]; exact List.mem_filter.2 ⟨hm, hx⟩
    exact (List.mem_filter.1 this).1
  · intro hm
    have : x ∈ l.filter (eqv lt x) := by rw [h.2 x]; exact List.mem_filter.2 ⟨hm, hx⟩
    exact (List.mem_filter.1 this).1
theorem Srt.app {l m : List α} : Srt lt (l ++ m) ↔ Srt lt l ∧ Srt lt m ∧ ∀ a ∈ l, ∀ b ∈ m, lt b a = false := List.pairwise_append
theorem srt_nil : Srt lt ([] : List α) := List.Pairwise.nil
theorem srt_one (a : α) : Srt lt [a] := List.pairwise_singleton _ _
theorem Srt.join (o : Ord lt) {l m l' m' : List α} (hl : Stab lt l l') (hm : Stab lt m m') (h1 : Srt lt l') (h2 : Srt lt m') (h : ∀ a ∈ l, ∀ b ∈ m, lt b a = false) : Srt lt (l' ++ m') :=
  Srt.app.2 ⟨h1, h2, fun a ha b hb => h a ((hl.mem o).2 ha) b ((hm.mem o).2 hb)⟩
end
end Go.Proofs.Act
/-
  Merging in place: what changes places, and where to cut.
-/
namespace Go.Proofs.Act
set_option linter.unusedVariables false
section
variable {α : Type}
theorem set_app {p q : List α} {a b : α} : (p ++ a :: q).set p.length b = p ++ b :: q := by simp
theorem swap_app (p r q : List α) (a b : α) : ((p ++ (a :: (r ++ b :: q))).set p.length b).set (p.length + 1 + r.length) a = p ++ (b :: (r ++ a :: q)) := by
  rw [set_app]
  have : p ++ b :: (r ++ b :: q) = (p ++ b :: r) ++ b :: q := by simp
  rw [this, show p.length + 1 + r.length = (p ++ b :: r).length by simp; omega, set_app]
  simp
theorem get_app (p q : List α) (a : α) : (p ++ a :: q)[p.length]? = some a := by simp
theorem cut_at {l : List α} {n : Nat} (h : n <= l.length) : ∃ u v, l = u ++ v ∧ u.length = n :=
  ⟨l.take n, l.drop n, (List.take_append_drop n l).symm, by simp [h]⟩
theorem cut_first {l : List α} (h : l ≠ []) : ∃ a v, l = a :: v := by
  cases l with
  | nil => exact absurd rfl h
  | cons a v => exact ⟨a, v, rfl⟩
theorem cut_last {l : List α} (h : l ≠ []) : ∃ u a, l = u ++ [a] := ⟨l.dropLast, l.getLast h, (List.dropLast_concat_getLast h).symm⟩
variable {lt : α -> α -> Bool}
theorem Srt.sub {p q l : List α} (h : Srt lt (p ++ (l ++ q))) : Srt lt l := (Srt.app.1 (Srt.app.1 h).2.1).1
theorem Srt.left {l m : List α} (h : Srt lt (l ++ m)) : Srt lt l := (Srt.app.1 h).1
theorem Srt.right {l m : List α} (h : Srt lt (l ++ m)) : Srt lt m := (Srt.app.1 h).2.1
theorem Srt.cross {l m : List α} (h : Srt lt (l ++ m)) {a b : α} (ha : a ∈ l) (hb : b ∈ m) : lt b a = false := (Srt.app.1 h).2.2 a ha b hb
theorem Srt.at (o : Ord lt) {l : List α} (h : Srt lt l) {i j : Nat} {a b : α} (hij : i <= j) (hi : l[i]? = some a) (hj : l[j]? = some b) : lt b a = false := by
  rcases Nat.eq_or_lt_of_le hij with e | e
  · subst e
    rw [hi] at hj; cases hj
    exact o.irr _
  · obtain ⟨hi', rfl⟩ := List.getElem?_eq_some_iff.1 hi
    obtain ⟨hj', rfl⟩ := List.getElem?_eq_some_iff.1 hj
    exact List.pairwise_iff_getElem.1 h i j hi' hj' e
theorem four (o : Ord lt) {u1 u2 v1 v2 : List α} (hu : Srt lt (u1 ++ u2)) (hv : Srt lt (v1 ++ v2)) (h1 : ∀ a ∈ u2, ∀ b ∈ v1, lt b a = true) (h2 : ∀ a ∈ u1, ∀ b ∈ v2, lt b a = false) :
    Stab lt ((u1 ++ u2) ++ (v1 ++ v2)) ((u1 ++ v1) ++ (u2 ++ v2)) ∧ ∀ a ∈ u1 ++ v1, ∀ b ∈ u2 ++ v2, lt b a = false := by
  constructor
  · have := (Stab.turn o (u := u2) (v := v1) h1).mid u1 v2
    simpa using this
  · intro a ha b hb
    rcases List.mem_append.1 ha with ha | ha <;> rcases List.mem_append.1 hb with hb | hb
    · exact hu.cross ha hb
    · exact h2 a ha b hb
    · exact o.asymm (h1 b hb a ha)
    · exact hv.cross ha hb
theorem put_r (o : Ord lt) {u1 u2 : List α} {x : α} (hu : Srt lt (u1 ++ u2)) (h1 : ∀ a ∈ u1, lt x a = false) (h2 : ∀ a ∈ u2, lt x a = true) :
    Stab lt ((u1 ++ u2) ++ [x]) (u1 ++ (x :: u2)) ∧ Srt lt (u1 ++ (x :: u2)) := by
  constructor
  · have := (Stab.turn o (u := u2) (v := [x]) (by simpa using h2)).mid u1 []
    simpa using this
  · refine Srt.app.2 ⟨hu.left, List.pairwise_cons.2 ⟨fun a ha => o.asymm (h2 a ha), hu.right⟩, ?_⟩
    intro a ha b hb
    rcases List.mem_cons.1 hb with e | hb
    · subst e; exact h1 a ha
    · exact hu.cross ha hb
theorem put_l (o : Ord lt) {v1 v2 : List α} {x : α} (hv : Srt lt (v1 ++ v2)) (h1 : ∀ a ∈ v1, lt a x = true) (h2 : ∀ a ∈ v2, lt a x = false) :
    Stab lt (x :: (v1 ++ v2)) (v1 ++ (x :: v2)) ∧ Srt lt (v1 ++ (x :: v2)) := by
  constructor
  · have := (Stab.turn o (u := [x]) (v := v1) (by simpa using h1)).mid [] v2
    simpa using this
  · refine Srt.app.2 ⟨hv.left, List.pairwise_cons.2 ⟨fun a ha => h2 a ha, hv.right⟩, ?_⟩
    intro a ha b hb
    rcases List.mem_cons.1 hb with e | hb
    · subst e; exact o.asymm (h1 a ha)
    · exact hv.cross ha hb
def lasts (eq : α -> α -> Bool) : List α -> List α
  | [] => []
  | [a] => [a]
  | a :: b :: l => if eq a b then lasts eq (b :: l) else a :: lasts eq (b :: l)
theorem lasts_mem (o : Ord lt) : ∀ {l : List α}, Srt lt l -> ∀ {x : α}, x ∈ lasts (eqv lt) l ↔ (l.filter (eqv lt x)).getLast? = some x := by
  intro l
  induction l with
  | nil => intro _ x; simp [lasts]
  | cons a l ih =>
    intro h x
    have hl : Srt lt l := (List.pairwise_cons.1 h).2
    have ha : ∀ b ∈ l, lt b a = false := (List.pairwise_cons.1 h).1
    cases l with
    | nil =>
      simp only [lasts, List.mem_singleton, List.filter_cons, List.filter_nil]
      constructor
      · rintro rfl
        have : eqv lt x x = true := eqv_iff.2 ⟨o.irr x, o.irr x⟩
        simp [this]
      · intro hx
        split at hx
        · simp at hx; exact hx.symm
        · simp at hx
    | cons b l =>
      have ih := ih hl (x := x)
      have hba : lt b a = false := ha b (by simp)
      simp only [lasts]
      by_cases hab : eqv lt a b = true
      · rw [if_pos hab, ih]
        obtain ⟨h1, h2⟩ := eqv_iff.1 hab
        rw [List.filter_cons (x := a)]
        split
        · rename_i hxa
          obtain ⟨k1, k2⟩ := eqv_iff.1 hxa
          have hxb : eqv lt x b = true := by
            refine eqv_iff.2 ⟨?_, ?_⟩
            · cases hc : lt x b with
              | false => rfl
              | true => rcases o.co x a b hc with h' | h' <;> simp_all
            · cases hc : lt b x with
              | false => rfl
              | true => rcases o.co b a x hc with h' | h' <;> simp_all
          have : (b :: l).filter (eqv lt x) ≠ [] := by
            intro e
            have := List.filter_eq_nil_iff.1 e b (by simp)
            exact this hxb
          obtain ⟨c, w, hw⟩ := cut_first this
          rw [hw, List.getLast?_cons_cons]
        · rfl
      · rw [if_neg hab]
        have hlt : lt a b = true := by
          cases hc : lt a b with
          | true => rfl
          | false => exact absurd (eqv_iff.2 ⟨hc, hba⟩) hab
        have hno : (b :: l).filter (eqv lt a) = [] := by
          rw [List.filter_eq_nil_iff]
          intro c hc hac
          obtain ⟨k1, k2⟩ := eqv_iff.1 hac
          have : lt c b = false := by
            rcases List.mem_cons.1 hc with e | hc
            · subst e; exact o.irr _
            · exact (List.pairwise_cons.1 hl).1 c hc
          have := o.lt_le hlt this
          rw [this] at k1; cases k1
        rw [List.mem_cons, ih, List.filter_cons (x := a)]
        constructor
        · rintro (rfl | hx)
          · rw [if_pos (eqv_iff.2 ⟨o.irr x, o.irr x⟩), hno]
            rfl
          · have hxm : x ∈ (b :: l) := (List.mem_filter.1 (List.mem_of_getLast? hx)).1
            have : eqv lt x a = true -> False := by
              intro hxa
              obtain ⟨k1, k2⟩ := eqv_iff.1 hxa
              have := List.filter_eq_nil_iff.1 hno x hxm
              exact this (eqv_iff.2 ⟨k2, k1⟩)
            rw [if_neg (by simpa using this)]
            exact hx
        · intro hx
          split at hx
          · rename_i hxa
            obtain ⟨k1, k2⟩ := eqv_iff.1 hxa
            have : (b :: l).filter (eqv lt x) = [] := by
              rw [List.filter_eq_nil_iff]
              intro c hc hxc
              have hm := List.filter_eq_nil_iff.1 hno c hc
              apply hm
              obtain ⟨q1, q2⟩ := eqv_iff.1 hxc
              refine eqv_iff.2 ⟨?_, ?_⟩
              · cases hc : lt a c with
                | false => rfl
                | true => rcases o.co a x c hc with h' | h' <;> simp_all
              · cases hc : lt c a with
                | false => rfl
                | true => rcases o.co c x a hc with h' | h' <;> simp_all
            rw [this] at hx
            simp at hx
            exact .inl hx.symm
          · exact .inr hx
end
end Go.Proofs.Act
/-
  Places, ranks; numbers that fit.
-/
namespace Go.Proofs.Act
open Go Go.Ab
set_option linter.unusedVariables false
set_option linter.unusedSimpArgs false
set_option maxRecDepth 100000
theorem wu64 {x : Int} (h1 : 0 <= x) (h2 : x <= 4611686018427387904) : IntKind.u64.wrap x = x := by
  have e1 : IntKind.u64.bits = 64 := rfl
  have e2 : IntKind.u64.signed = false := rfl
  simp [IntKind.wrap, e1, e2]
  omega
theorem wmid {i j : Nat} (h : i + j <= 4611686018427387904) : IntKind.i64.wrap ((IntKind.u64.wrap (IntKind.i64.wrap ((i : Int) + (j : Int)))).fdiv ((2 : Int) ^ (1 : Nat))) = (((i + j) / 2 : Nat) : Int) := by
  rw [w64 (x := (i : Int) + (j : Int)) (by omega) (by omega), wu64 (by omega) (by omega)]
  rw [show ((i : Int) + (j : Int)).fdiv ((2 : Int) ^ (1 : Nat)) = (((i + j) / 2 : Nat) : Int) by
    rw [Int.fdiv_eq_ediv_of_nonneg _ (by decide)]
    omega]
  exact w64 (by omega) (by omega)
def pl (a : Action) : Int := if a.Kind = 0 then 0 else if a.Kind = 4 then 1 else if a.Kind = 3 then 2 else if a.Kind = 5 then 3 else if a.Kind = 2 then 4 else if a.Kind = 1 then 5 else -1
def fld (a : Action) : Int := if a.Kind = 5 then a.Field else 0
def lt (a b : Action) : Bool := decide (pl a < pl b ∨ pl a = pl b ∧ fld a < fld b)
theorem ordL : Ord lt := by
  refine ⟨fun a => ?_, fun a b c h1 h2 => ?_, fun a b c h => ?_⟩
  · simp [lt]
  · simp only [lt, decide_eq_true_eq] at *; omega
  · simp only [lt, decide_eq_true_eq] at *; omega
theorem eqvL {a b : Action} : eqv lt a b = true ↔ pl a = pl b ∧ fld a = fld b := by
  rw [eqv_iff]
  simp only [lt, decide_eq_false_iff_not]
  omega
theorem f28_at (x : Int) : f28 [0, 4, 3, 5, 2, 1] x = some (if x = 0 then 0 else if x = 4 then 1 else if x = 3 then 2 else if x = 5 then 3 else if x = 2 then 4 else if x = 1 then 5 else -1) := by
  unfold f28
  refine runO_inl (s' := .h0 [0, 4, 3, 5, 2, 1] x 0) rfl ?_
  by_cases h0 : x = 0
  · refine loopO_inr ?_
    unfold g28
    rw [opt_t (by rfl), opt_chk (by decide), opt_get (x := 0) (by rfl), opt_t (by simp [h0]), opt_ret, if_pos h0]
  refine loopO_inl (s' := .h0 [0, 4, 3, 5, 2, 1] x 1) ?_ ?_
  · unfold g28
    rw [opt_t (by rfl), opt_chk (by decide), opt_get (x := 0) (by rfl), opt_f (by simp [h0]), opt_ret]; rfl
  rw [if_neg h0]
  by_cases h1 : x = 4
  · refine loopO_inr ?_
    unfold g28
    rw [opt_t (by rfl), opt_chk (by decide), opt_get (x := 4) (by rfl), opt_t (by simp [h1]), opt_ret, if_pos h1]
  refine loopO_inl (s' := .h0 [0, 4, 3, 5, 2, 1] x 2) ?_ ?_
  · unfold g28
    rw [opt_t (by rfl), opt_chk (by decide), opt_get (x := 4) (by rfl), opt_f (by simp [h1]), opt_ret]; rfl
  rw [if_neg h1]
  by_cases h2 : x = 3
  · refine loopO_inr ?_
    unfold g28
    rw [opt_t (by rfl), opt_chk (by decide), opt_get (x := 3) (by rfl), opt_t (by simp [h2]), opt_ret, if_pos h2]
  refine loopO_inl (s' := .h0 [0, 4, 3, 5, 2, 1] x 3) ?_ ?_
  · unfold g28
    rw [opt_t (by rfl), opt_chk (by decide), opt_get (x := 3) (by rfl), opt_f (by simp [h2]), opt_ret]; rfl
  rw [if_neg h2]
  by_cases h3 : x = 5
  · refine loopO_inr ?_
    unfold g28
    rw [opt_t (by rfl), opt_chk (by decide), opt_get (x := 5) (by rfl), opt_t (by simp [h3]), opt_ret, if_pos h3]
  refine loopO_inl (s' := .h0 [0, 4, 3, 5, 2, 1] x 4) ?_ ?_
  · unfold g28
    rw [opt_t (by rfl), opt_chk (by decide), opt_get (x := 5) (by rfl), opt_f (by simp [h3]), opt_ret]; rfl
  rw [if_neg h3]
  by_cases h4 : x = 2
  · refine loopO_inr ?_
    unfold g28
    rw [opt_t (by rfl), opt_chk (by decide), opt_get (x := 2) (by rfl), opt_t (by simp [h4]), opt_ret, if_pos h4]
  refine loopO_inl (s' := .h0 [0, 4, 3, 5, 2, 1] x 5) ?_ ?_
  · unfold g28
    rw [opt_t (by rfl), opt_chk (by decide), opt_get (x := 2) (by rfl), opt_f (by simp [h4]), opt_ret]; rfl
  rw [if_neg h4]
  by_cases h5 : x = 1
  · refine loopO_inr ?_
    unfold g28
    rw [opt_t (by rfl), opt_chk (by decide), opt_get (x := 1) (by rfl), opt_t (by simp [h5]), opt_ret, if_pos h5]
  refine loopO_inl (s' := .h0 [0, 4, 3, 5, 2, 1] x 6) ?_ ?_
  · unfold g28
    rw [opt_t (by rfl), opt_chk (by decide), opt_get (x := 1) (by rfl), opt_f (by simp [h5]), opt_ret]; rfl
  rw [if_neg h5]
  refine loopO_inr ?_
  unfold g28
  rw [opt_f (by rfl), opt_ret]
theorem f14_eq (a : Action) : f14 a = some (pl a) := by
  unfold f14 u14
  refine (opt_chk (by decide)).trans ?_
  exact (opt_get (x := pl a) (f28_at a.Kind)).trans opt_ret
theorem f13_eq (a : Action) : f13 a = some (decide (pl a < 1)) := by
  unfold f13 u13
  rw [opt_get (f14_eq a), opt_ret]
theorem f30_eq (a b : Int) : f30 a b = if a < b then -1 else if b < a then 1 else 0 := by
  unfold f30 u30 f38 u38
  simp only [tot_ite, tot_ret, decide_true, Bool.not_true, Bool.false_eq_true, if_false, decide_eq_true_eq]
def rk (a b : Action) : Int := if lt a b then -1 else if lt b a then 1 else 0
theorem f16_eq (a b : Action) : f16 a b = some (rk a b) := by
  unfold f16 u16
  rw [opt_get (f14_eq a), opt_get (f14_eq b)]
  simp only [opt_ite, opt_ret, f30_eq]
  have h5 : pl a = pl b -> (a.Kind = 5 ↔ b.Kind = 5) := by
    unfold pl; intro h; constructor <;> intro h' <;> revert h <;> (repeat' split) <;> omega
  unfold rk lt fld
  simp only [decide_eq_true_eq, Bool.not_eq_true', decide_eq_false_iff_not]
  by_cases hp : pl a = pl b
  · have h5 := h5 hp
    by_cases ha : a.Kind = 5
    · have hb := h5.1 ha
      simp [hp, ha, hb]
    · have hb : ¬ b.Kind = 5 := fun h => ha (h5.2 h)
      simp [hp, ha, hb]
  · rcases Int.lt_or_gt_of_ne hp with h | h
    · simp [hp, h]
    · have h' : ¬ pl a < pl b := by omega
      have hp' : ¬ pl b = pl a := by omega
      simp [hp, hp', h, h']
theorem rk_neg {a b : Action} : decide (rk a b < 0) = lt a b := by
  unfold rk
  cases h : lt a b with
  | true => rfl
  | false => cases lt b a <;> rfl
theorem rk_zero {a b : Action} : decide (rk a b = 0) = eqv lt a b := by
  unfold rk eqv
  cases lt a b <;> cases lt b a <;> rfl
end Go.Proofs.Act
/-
  Blocks change places: swapRange, rotate.
-/
namespace Go.Proofs.Act
open Go Go.Ab
set_option linter.unusedVariables false
set_option linter.unusedSimpArgs false
set_option maxRecDepth 100000
def BIG : Nat := 1000000000
theorem two_get1 {α : Type} (P R Q : List α) (x y : α) {A : Nat} (hA : A = P.length) : (P ++ x :: (R ++ y :: Q))[0 + A]? = some x := by
  subst hA; simp
theorem two_get2 {α : Type} (P R Q : List α) (x y : α) {B : Nat} (hB : B = P.length + 1 + R.length) : (P ++ x :: (R ++ y :: Q))[0 + B]? = some y := by
  subst hB
  have : P ++ x :: (R ++ y :: Q) = (P ++ x :: R) ++ y :: Q := by simp
  rw [this, show 0 + (P.length + 1 + R.length) = (P ++ x :: R).length by simp; omega]
  exact get_app _ _ _
theorem two_get3 {α : Type} (P R Q : List α) (x y z : α) {A B : Nat} (hA : A = P.length) (hB : B = P.length + 1 + R.length) : ((P ++ x :: (R ++ y :: Q)).set (0 + A) z)[0 + B]? = some y := by
  rw [Nat.zero_add, hA, set_app]
  exact two_get2 _ _ _ _ _ hB
theorem two_set {α : Type} (P R Q : List α) (x y : α) {A B : Nat} (hA : A = P.length) (hB : B = P.length + 1 + R.length) : ((P ++ x :: (R ++ y :: Q)).set (0 + A) y).set (0 + B) x = P ++ y :: (R ++ x :: Q) := by
  rw [Nat.zero_add, Nat.zero_add, hA, hB]
  exact swap_app _ _ _ _ _
theorem swap_loop {n0 a b n : Nat} (hs : n0 <= BIG) : ∀ (X2 Y2 X1 Y1 p r q : List Action), X2.length = Y2.length -> X1.length = Y1.length -> a = p.length -> b = p.length + X1.length + X2.length + r.length -> n = X1.length + X2.length -> b + n <= n0 ->
    loopO g50 (.h0 n0 (a : Int) (b : Int) (n : Int) (X1.length : Int) (p ++ (X1 ++ (X2 ++ (r ++ (Y1 ++ (Y2 ++ q))))))) = some ((), p ++ (X1 ++ (Y2 ++ (r ++ (Y1 ++ (X2 ++ q))))), ()) := by
  have hB : BIG = 1000000000 := rfl
  intro X2
  induction X2 with
  | nil =>
    intro Y2 X1 Y1 p r q h1 h2 ha hb hn hle
    have : Y2 = [] := List.length_eq_zero_iff.1 h1.symm
    subst this
    simp only [List.length_nil, Nat.add_zero] at hn
    refine loopO_inr ?_
    unfold g50
    rw [opt_f (by simp; omega), opt_ret]
    rfl
  | cons x X2 ih =>
    intro Y2 X1 Y1 p r q h1 h2 ha hb hn hle
    cases Y2 with
    | nil => cases h1
    | cons y Y2 =>
      simp only [List.length_cons] at h1 hb hn
      have hi := ih Y2 (X1 ++ [y]) (Y1 ++ [x]) p r q (by omega) (by simp [h2]) ha (by simp; omega) (by simp; omega) hle
      have e : p ++ (X1 ++ (x :: X2 ++ (r ++ (Y1 ++ (y :: Y2 ++ q))))) = (p ++ X1) ++ x :: ((X2 ++ (r ++ Y1)) ++ y :: (Y2 ++ q)) := by simp
      have e2 : (p ++ X1) ++ y :: ((X2 ++ (r ++ Y1)) ++ x :: (Y2 ++ q)) = p ++ ((X1 ++ [y]) ++ (X2 ++ (r ++ ((Y1 ++ [x]) ++ (Y2 ++ q))))) := by simp
      have e3 : p ++ ((X1 ++ [y]) ++ (Y2 ++ (r ++ ((Y1 ++ [x]) ++ (X2 ++ q))))) = p ++ (X1 ++ (y :: Y2 ++ (r ++ (Y1 ++ (x :: X2 ++ q))))) := by simp
      rw [e3] at hi
      refine loopO_inl ?_ hi
      have wa : IntKind.i64.wrap ((a : Int) + (X1.length : Int)) = ((a + X1.length : Nat) : Int) := by rw [w64 (by omega) (by omega)]; omega
      have wb : IntKind.i64.wrap ((b : Int) + (X1.length : Int)) = ((b + X1.length : Nat) : Int) := by rw [w64 (by omega) (by omega)]; omega
      unfold g50
      have cA : a + X1.length = (p ++ X1).length := by simp [ha]
      have cB : b + X1.length = (p ++ X1).length + 1 + (X2 ++ (r ++ Y1)).length := by simp; omega
      rw [opt_t (by simp; omega), wa, wb, e, Int.toNat_natCast, Int.toNat_natCast, opt_chk (by omega), opt_get (two_get2 _ _ _ _ _ cB), opt_chk (by omega), opt_get (two_get1 _ _ _ _ _ cA), opt_chk (by omega), opt_get (two_get1 _ _ _ _ _ cA), opt_chk (by omega), opt_get (two_get3 _ _ _ _ _ _ cA cB), opt_ret, two_set _ _ _ _ _ cA cB, e2, wsucc (by omega)]
      simp
theorem swap_ok {n0 a b n : Nat} (hs : n0 <= BIG) {X Y p r q : List Action} (h : X.length = Y.length) (ha : a = p.length) (hb : b = p.length + X.length + r.length) (hn : n = X.length) (hle : b + n <= n0) :
    R50 (n0, (a : Int), (b : Int), (n : Int), (), ()) (p ++ (X ++ (r ++ (Y ++ q))), ()) = some ((), p ++ (Y ++ (r ++ (X ++ q))), ()) := by
  unfold R50 f50 s50
  exact runO_inl rfl (swap_loop hs X Y [] [] p r q h rfl ha (by simpa using hb) (by simpa using hn) hle)
theorem rot_loop {n0 m : Nat} (hs : n0 <= BIG) : ∀ (k : Nat) (X Y p q : List Action), X.length + Y.length <= k -> X ≠ [] -> Y ≠ [] -> m = p.length + X.length -> m + Y.length <= n0 ->
    loopO g45 (.h0 n0 (m : Int) (X.length : Int) (p ++ (X ++ (Y ++ q))) (Y.length : Int)) = some ((), p ++ (Y ++ (X ++ q)), ()) := by
  have hB : BIG = 1000000000 := rfl
  intro k
  induction k with
  | zero =>
    intro X Y p q hk hx
    have : X = [] := List.length_eq_zero_iff.1 (by omega)
    exact absurd this hx
  | succ k ih =>
    intro X Y p q hk hx hy hm hle
    have hx1 : 0 < X.length := List.length_pos_iff.2 hx
    have hy1 : 0 < Y.length := List.length_pos_iff.2 hy
    have wmi : IntKind.i64.wrap ((m : Int) - (X.length : Int)) = (p.length : Int) := by rw [w64 (by omega) (by omega)]; omega
    rcases Nat.lt_trichotomy X.length Y.length with h | h | h
    · obtain ⟨Y1, Y2, rfl, h1⟩ := cut_at (l := Y) (n := Y.length - X.length) (by omega)
      simp only [List.length_append] at *
      have h2 : Y2.length = X.length := by omega
      have hY1 : Y1 ≠ [] := by intro e; have := congrArg List.length e; simp only [List.length_nil] at this; omega
      have hY2 : Y2 ≠ [] := by intro e; have := congrArg List.length e; simp only [List.length_nil] at this; omega
      have hi := ih Y2 Y1 p (X ++ q) (by omega) hY2 hY1 (by omega) (by omega)
      have e1 : p ++ (Y1 ++ (Y2 ++ (X ++ q))) = p ++ (Y1 ++ Y2 ++ (X ++ q)) := by simp
      rw [e1] at hi
      refine loopO_inl ?_ hi
      unfold g45
      have w1 : IntKind.i64.wrap (IntKind.i64.wrap ((m : Int) + ((Y1.length + Y2.length : Nat) : Int)) - (X.length : Int)) = ((m + Y1.length : Nat) : Int) := by
        rw [w64 (x := (m : Int) + ((Y1.length + Y2.length : Nat) : Int)) (by omega) (by omega), w64 (by omega) (by omega)]; omega
      have w2 : IntKind.i64.wrap (((Y1.length + Y2.length : Nat) : Int) - (X.length : Int)) = (Y1.length : Int) := by rw [w64 (by omega) (by omega)]; omega
      have sw := swap_ok (n0 := n0) (a := p.length) (b := m + Y1.length) (n := X.length) hs (X := X) (Y := Y2) (p := p) (r := Y1) (q := q) h2.symm rfl (by omega) rfl (by omega)
      have e2 : p ++ (X ++ (Y1 ++ Y2 ++ q)) = p ++ (X ++ (Y1 ++ (Y2 ++ q))) := by simp
      rw [opt_t (by simp; omega), opt_f (by simp; omega), wmi, w1, e2]
      refine (opt_get sw).trans ?_
      rw [opt_ret, w2, h2]
    · refine loopO_inr ?_
      unfold g45
      have sw := swap_ok (n0 := n0) (a := p.length) (b := m) (n := X.length) hs (X := X) (Y := Y) (p := p) (r := []) (q := q) h rfl (by simpa using hm) rfl (by omega)
      simp only [List.nil_append] at sw
      rw [opt_f (by simp; omega), wmi]
      exact (opt_get sw).trans rfl
    · obtain ⟨X1, X2, rfl, h1⟩ := cut_at (l := X) (n := Y.length) (by omega)
      simp only [List.length_append] at *
      have hX2 : X2 ≠ [] := by intro e; have := congrArg List.length e; simp only [List.length_nil] at this; omega
      have hX1 : X1 ≠ [] := by intro e; have := congrArg List.length e; simp only [List.length_nil] at this; omega
      have hi := ih X2 X1 (p ++ Y) q (by omega) hX2 hX1 (by simp; omega) (by omega)
      have e1 : p ++ Y ++ (X1 ++ (X2 ++ q)) = p ++ (Y ++ (X1 ++ X2 ++ q)) := by simp
      rw [e1] at hi
      refine loopO_inl ?_ hi
      unfold g45
      have w2 : IntKind.i64.wrap (((X1.length + X2.length : Nat) : Int) - (Y.length : Int)) = (X2.length : Int) := by rw [w64 (by omega) (by omega)]; omega
      have sw := swap_ok (n0 := n0) (a := p.length) (b := m) (n := Y.length) hs (X := X1) (Y := Y) (p := p) (r := X2) (q := q) h1 rfl (by omega) h1.symm (by omega)
      have e2 : p ++ (X1 ++ X2 ++ (Y ++ q)) = p ++ (X1 ++ (X2 ++ (Y ++ q))) := by simp
      have e3 : p ++ (Y ++ (X2 ++ (X1 ++ q))) = p ++ Y ++ (X2 ++ (X1 ++ q)) := by simp
      rw [opt_t (by simp; omega), opt_t (by simp; omega), wmi, e2]
      refine (opt_get sw).trans ?_
      rw [opt_ret, w2, h1]
      simp only [e3]
theorem rot_ok {n0 a m b : Nat} (hs : n0 <= BIG) {X Y p q : List Action} (hx : X ≠ []) (hy : Y ≠ []) (ha : a = p.length) (hm : m = p.length + X.length) (hb : b = m + Y.length) (hle : b <= n0) :
    R45 (n0, (a : Int), (m : Int), (b : Int), (), ()) (p ++ (X ++ (Y ++ q)), ()) = some ((), p ++ (Y ++ (X ++ q)), ()) := by
  have hB : BIG = 1000000000 := rfl
  unfold R45 f45 s45
  have w1 : IntKind.i64.wrap ((m : Int) - (a : Int)) = (X.length : Int) := by rw [w64 (by omega) (by omega)]; omega
  have w2 : IntKind.i64.wrap ((b : Int) - (m : Int)) = (Y.length : Int) := by rw [w64 (by omega) (by omega)]; omega
  refine runO_inl (by rw [opt_ret, w1, w2]) (rot_loop hs _ X Y p q (Nat.le_refl _) hx hy hm (by omega))
end Go.Proofs.Act
/-
  Insertion sort of a block.
-/
namespace Go.Proofs.Act
open Go Go.Ab
set_option linter.unusedVariables false
set_option linter.unusedSimpArgs false
set_option maxRecDepth 100000
theorem two_set' {α : Type} (P Q : List α) (x y : α) {A B : Nat} (hA : A = P.length) (hB : B = P.length + 1) : ((P ++ y :: (x :: Q)).set (0 + B) y).set (0 + A) x = P ++ x :: (y :: Q) := by
  rw [Nat.zero_add, Nat.zero_add, hA, hB]
  have : P ++ y :: (x :: Q) = (P ++ [y]) ++ x :: Q := by simp
  rw [this, show P.length + 1 = (P ++ [y]).length by simp, set_app]
  have : P ++ [y] ++ y :: Q = P ++ y :: (y :: Q) := by simp
  rw [this, set_app]
theorem adj_get1 {α : Type} (P Q : List α) (x y : α) {A : Nat} (hA : A = P.length) : (P ++ y :: (x :: Q))[0 + A]? = some y := by
  subst hA; simp
theorem adj_get2 {α : Type} (P Q : List α) (x y : α) {B : Nat} (hB : B = P.length + 1) : (P ++ y :: (x :: Q))[0 + B]? = some x := by
  have : P ++ y :: (x :: Q) = (P ++ [y]) ++ x :: Q := by simp
  rw [this, hB, show 0 + (P.length + 1) = (P ++ [y]).length by simp]
  exact get_app _ _ _
theorem adj_get3 {α : Type} (P Q : List α) (x y z : α) {A B : Nat} (hA : A = P.length) (hB : B = P.length + 1) : ((P ++ y :: (x :: Q)).set (0 + B) z)[0 + A]? = some y := by
  rw [List.getElem?_set_ne (by omega)]
  exact adj_get1 _ _ _ _ hA
theorem ins_inner {n0 a b : Nat} (hs : n0 <= BIG) {p : List Action} (ha : a = p.length) (x : Action) (i : Nat) : ∀ (k : Nat) (s1 s2 r : List Action), s1.length = k -> Srt lt (s1 ++ s2) -> (∀ y ∈ s2, lt x y = true) -> a + s1.length < n0 ->
    ∃ s', Stab lt ((s1 ++ s2) ++ [x]) s' ∧ Srt lt s' ∧ loopO g36 (.h1 n0 (a : Int) (b : Int) ((a + s1.length : Nat) : Int) (p ++ (s1 ++ x :: (s2 ++ r))) (i : Int)) = loopO g36 (.h0 n0 (a : Int) (b : Int) (IntKind.i64.wrap ((i : Int) + 1)) (p ++ (s' ++ r))) := by
  have hB : BIG = 1000000000 := rfl
  intro k
  induction k with
  | zero =>
    intro s1 s2 r hk hsr h2 hle
    have : s1 = [] := List.length_eq_zero_iff.1 hk
    subst this
    obtain ⟨h3, h4⟩ := put_r ordL (u1 := []) (u2 := s2) (x := x) hsr (by simp) h2
    refine ⟨[] ++ x :: s2, h3, h4, ?_⟩
    refine loopO_inl ?_ rfl
    unfold g36
    rw [opt_f (by simp), opt_ret]
    simp
  | succ k ih =>
    intro s1 s2 r hk hsr h2 hle
    obtain ⟨s, y, rfl⟩ := cut_last (l := s1) (by intro e; subst e; simp at hk)
    simp only [List.length_append, List.length_cons, List.length_nil] at hk hle
    have wj : IntKind.i64.wrap (((a + (s ++ [y]).length : Nat) : Int) - 1) = ((a + s.length : Nat) : Int) := by
      simp only [List.length_append, List.length_cons, List.length_nil]
      rw [w64 (by omega) (by omega)]; omega
    have e : p ++ ((s ++ [y]) ++ x :: (s2 ++ r)) = (p ++ s) ++ y :: (x :: (s2 ++ r)) := by simp
    have cA : a + s.length = (p ++ s).length := by simp [ha]
    have cB : a + (s ++ [y]).length = (p ++ s).length + 1 := by simp; omega
    have g2 := adj_get2 (p ++ s) (s2 ++ r) x y cB
    have g1 := adj_get1 (p ++ s) (s2 ++ r) x y cA
    have l1 : (s ++ [y]).length = s.length + 1 := by simp
    cases hxy : lt x y with
    | true =>
      obtain ⟨s', h3, h4, h5⟩ := ih s (y :: s2) r (by omega) (by simpa using hsr) (by
        intro z hz
        rcases List.mem_cons.1 hz with e | hz
        · subst e; exact hxy
        · exact h2 z hz) (by omega)
      refine ⟨s', by simpa using h3, h4, ?_⟩
      rw [<- h5]
      refine loopO_inl ?_ rfl
      unfold g36
      rw [opt_t (by simp; omega), wj, e, Int.toNat_natCast, Int.toNat_natCast, opt_chk (by omega), opt_get g2, opt_chk (by omega), opt_get g1, opt_get (f16_eq x y), opt_t (by rw [rk_neg, hxy]), opt_chk (by omega), opt_get g1, opt_chk (by omega), opt_get g2, opt_chk (by omega), opt_get g2, opt_chk (by omega), opt_get (adj_get3 _ _ _ _ _ cA cB), opt_ret, two_set' _ _ _ _ cA cB]
      simp
    | false =>
      obtain ⟨h3, h4⟩ := put_r ordL (u1 := s ++ [y]) (u2 := s2) (x := x) hsr (by
        intro z hz
        rcases List.mem_append.1 hz with hz | hz
        · exact ordL.le_trans (hsr.left.cross hz (by simp)) hxy
        · simp at hz; subst hz; exact hxy) h2
      refine ⟨_, h3, h4, ?_⟩
      refine loopO_inl ?_ rfl
      unfold g36
      rw [opt_t (by simp; omega), wj, e, Int.toNat_natCast, Int.toNat_natCast, opt_chk (by omega), opt_get g2, opt_chk (by omega), opt_get g1, opt_get (f16_eq x y), opt_f (by rw [rk_neg, hxy]), opt_ret]
      simp
theorem ins_outer {n0 a b : Nat} (hs : n0 <= BIG) {p : List Action} (ha : a = p.length) (q : List Action) : ∀ (v s : List Action), Srt lt s -> b = a + s.length + v.length -> b <= n0 ->
    ∃ w, Stab lt (s ++ v) w ∧ Srt lt w ∧ loopO g36 (.h0 n0 (a : Int) (b : Int) ((a + s.length : Nat) : Int) (p ++ (s ++ (v ++ q)))) = some ((), p ++ (w ++ q), ()) := by
  have hB : BIG = 1000000000 := rfl
  intro v
  induction v with
  | nil =>
    intro s h1 h2 h3
    refine ⟨s, by simpa using Stab.refl s, h1, ?_⟩
    refine loopO_inr ?_
    unfold g36
    rw [opt_f (by simp at h2 ⊢; omega), opt_ret]
    rfl
  | cons x v ih =>
    intro s h1 h2 h3
    simp only [List.length_cons] at h2
    obtain ⟨s', k1, k2, k3⟩ := ins_inner (n0 := n0) (a := a) (b := b) hs ha x (a + s.length) _ s [] (v ++ q) rfl (by simpa using h1) (by simp) (by omega)
    rw [List.append_nil] at k1
    have hl : s'.length = s.length + 1 := by have := k1.1; simpa using this.symm
    obtain ⟨w, m1, m2, m3⟩ := ih s' k2 (by omega) h3
    refine ⟨w, ?_, m2, ?_⟩
    · have := (k1.app (Stab.refl v)).trans m1
      simpa using this
    · rw [<- m3]
      have e : ((a + s'.length : Nat) : Int) = IntKind.i64.wrap (((a + s.length : Nat) : Int) + 1) := by rw [w64 (by omega) (by omega)]; omega
      rw [e, <- k3]
      refine loopO_inl ?_ rfl
      unfold g36
      rw [opt_t (by simp; omega), opt_ret]
      simp
theorem ins_ok {n0 a b : Nat} (hs : n0 <= BIG) {p u q : List Action} (ha : a = p.length) (hb : b = a + u.length) (hle : b <= n0) :
    ∃ w, Stab lt u w ∧ Srt lt w ∧ R36 (n0, (a : Int), (b : Int), (), ()) (p ++ (u ++ q), ()) = some ((), p ++ (w ++ q), ()) := by
  have hB : BIG = 1000000000 := rfl
  have wa : IntKind.i64.wrap ((a : Int) + 1) = ((a + 1 : Nat) : Int) := wsucc (by omega)
  cases u with
  | nil =>
    refine ⟨[], Stab.refl _, srt_nil, ?_⟩
    unfold R36 f36 s36
    simp only [List.length_nil] at hb
    refine runO_inl (by rw [opt_ret, wa]) (loopO_inr ?_)
    unfold g36
    rw [opt_f (by simp; omega), opt_ret]
    rfl
  | cons x v =>
    simp only [List.length_cons] at hb
    obtain ⟨w, m1, m2, m3⟩ := ins_outer hs ha q v [x] (srt_one x) (by simp; omega) hle
    refine ⟨w, m1, m2, ?_⟩
    unfold R36 f36 s36
    refine runO_inl (by rw [opt_ret, wa]) ?_
    exact m3
end Go.Proofs.Act
/-
  Merging in place, of one element with a block.
-/
namespace Go.Proofs.Act
open Go Go.Ab
set_option linter.unusedVariables false
set_option linter.unusedSimpArgs false
set_option maxRecDepth 100000
abbrev Self := ETup Th [.row 29 0, .p (.i .i64), .p (.i .i64), .p (.i .i64), .fn 16] -> OTup Th [.row 29] -> Option (RTup Th [] × OTup Th [.row 29])
theorem bub_up {n0 i : Nat} (self : Self) (hs : n0 <= BIG) (x : Action) : ∀ (v p r : List Action) (k : Nat), k = p.length -> i = k + v.length + 1 -> i <= n0 ->
    loopO (g37 self) (.h3 n0 (i : Int) (k : Int) (p ++ x :: (v ++ r))) = some ((), p ++ (v ++ x :: r), ()) := by
  have hB : BIG = 1000000000 := rfl
  intro v
  induction v with
  | nil =>
    intro p r k hk hi hle
    refine loopO_inr ?_
    simp only [List.length_nil] at hi
    have w : IntKind.i64.wrap ((i : Int) - 1) = (k : Int) := by rw [w64 (by omega) (by omega)]; omega
    rw [g37, w, opt_f (by simp), opt_ret]
    rfl
  | cons y v ih =>
    intro p r k hk hi hle
    simp only [List.length_cons] at hi
    have h := ih (p ++ [y]) r (k + 1) (by simp [hk]) (by omega) hle
    have e1 : p ++ [y] ++ (v ++ x :: r) = p ++ (y :: v ++ x :: r) := by simp
    rw [e1] at h
    refine loopO_inl ?_ h
    have w : IntKind.i64.wrap ((i : Int) - 1) = ((k + v.length + 1 : Nat) : Int) := by rw [w64 (by omega) (by omega)]; omega
    have w1 : IntKind.i64.wrap ((k : Int) + 1) = ((k + 1 : Nat) : Int) := wsucc (by omega)
    have e : p ++ x :: (y :: v ++ r) = p ++ x :: ([] ++ y :: (v ++ r)) := by simp
    have cB : k + 1 = p.length + 1 + ([] : List Action).length := by simp [hk]
    rw [g37, w, w1, e, opt_t (by simp; omega), Int.toNat_natCast, Int.toNat_natCast, opt_chk (by omega), opt_get (two_get2 _ _ _ _ _ cB), opt_chk (by omega), opt_get (two_get1 _ _ _ _ _ hk), opt_chk (by omega), opt_get (two_get1 _ _ _ _ _ hk), opt_chk (by omega), opt_get (two_get3 _ _ _ _ _ _ hk cB), opt_ret, two_set _ _ _ _ _ hk cB]
    simp
theorem bub_dn {n0 i : Nat} (self : Self) (hs : n0 <= BIG) (x : Action) {p : List Action} (hi : i = p.length) : ∀ (n : Nat) (u r : List Action) (k : Nat), u.length = n -> k = i + u.length -> k < n0 ->
    loopO (g37 self) (.h4 n0 (i : Int) (k : Int) (p ++ (u ++ x :: r))) = some ((), p ++ x :: (u ++ r), ()) := by
  have hB : BIG = 1000000000 := rfl
  intro n
  induction n with
  | zero =>
    intro u r k hn hk hle
    have : u = [] := List.length_eq_zero_iff.1 hn
    subst this
    refine loopO_inr ?_
    simp only [List.length_nil] at hk
    rw [g37, opt_f (by simp; omega), opt_ret]
    rfl
  | succ n ih =>
    intro u r k hn hk hle
    obtain ⟨u, y, rfl⟩ := cut_last (l := u) (by intro e; subst e; simp at hn)
    simp only [List.length_append, List.length_cons, List.length_nil] at hn hk
    have h := ih u (y :: r) (k - 1) (by omega) (by omega) (by omega)
    have e1 : p ++ x :: (u ++ y :: r) = p ++ x :: (u ++ [y] ++ r) := by simp
    rw [e1] at h
    refine loopO_inl ?_ h
    have w : IntKind.i64.wrap ((k : Int) - 1) = ((k - 1 : Nat) : Int) := by rw [w64 (by omega) (by omega)]; omega
    have e : p ++ (u ++ [y] ++ x :: r) = (p ++ u) ++ y :: (x :: r) := by simp
    have cA : k - 1 = (p ++ u).length := by simp; omega
    have cB : k = (p ++ u).length + 1 := by simp; omega
    rw [g37, w, e, opt_t (by simp; omega), Int.toNat_natCast, Int.toNat_natCast, opt_chk (by omega), opt_get (adj_get1 _ _ _ _ cA), opt_chk (by omega), opt_get (adj_get2 _ _ _ _ cB), opt_chk (by omega), opt_get (adj_get2 _ _ _ _ cB), opt_chk (by omega), opt_get (adj_get3 _ _ _ _ _ cA cB), opt_ret, two_set' _ _ _ _ cA cB]
    simp
theorem at_mid {p v r : List Action} {k t : Nat} {y : Action} (h : v[t]? = some y) (hk : k = p.length + t) : (p ++ (v ++ r))[0 + k]? = some y := by
  have ht : t < v.length := by
    rcases Nat.lt_or_ge t v.length with h' | h'
    · exact h'
    · rw [List.getElem?_eq_none h'] at h; cases h
  rw [hk, Nat.zero_add, List.getElem?_append_right (by omega), show p.length + t - p.length = t by omega, List.getElem?_append_left ht]
  exact h
theorem some_at {v : List Action} {t : Nat} (h : t < v.length) : ∃ y, v[t]? = some y := ⟨v[t], by simp [h]⟩
theorem find_l {n0 a m : Nat} (hs : n0 <= BIG) {p v q : List Action} {x : Action} (ha : a = p.length) (hm : m = a + 1) (hle : m + v.length <= n0) :
    ∀ (k i j : Nat), j - i <= k -> i <= j -> j <= v.length -> (∀ t y, i = t + 1 -> v[t]? = some y -> lt y x = true) -> (∀ y, v[j]? = some y -> lt y x = false) ->
    ∃ T, T <= v.length ∧ (∀ t y, T = t + 1 -> v[t]? = some y -> lt y x = true) ∧ (∀ y, v[T]? = some y -> lt y x = false) ∧
      ∀ self, loopO (g37 self) (.h0 n0 (a : Int) (p ++ x :: (v ++ q)) ((m + i : Nat) : Int) ((m + j : Nat) : Int)) = loopO (g37 self) (.h3 n0 ((m + T : Nat) : Int) (a : Int) (p ++ x :: (v ++ q))) := by
  have hB : BIG = 1000000000 := rfl
  intro k
  induction k with
  | zero =>
    intro i j hk hij hj h1 h2
    have : i = j := by omega
    subst this
    refine ⟨i, hj, h1, h2, fun self => ?_⟩
    refine loopO_inl ?_ rfl
    rw [g37, opt_f (by simp), opt_ret]
  | succ k ih =>
    intro i j hk hij hj h1 h2
    rcases Nat.eq_or_lt_of_le hij with e | hlt
    · subst e
      refine ⟨i, hj, h1, h2, fun self => ?_⟩
      refine loopO_inl ?_ rfl
      rw [g37, opt_f (by simp), opt_ret]
    · have wm : IntKind.i64.wrap ((IntKind.u64.wrap (IntKind.i64.wrap (((m + i : Nat) : Int) + ((m + j : Nat) : Int)))).fdiv ((2 : Int) ^ (1 : Nat))) = ((m + (i + j) / 2 : Nat) : Int) := by
        rw [wmid (by omega)]; congr 1; omega
      obtain ⟨y, hy⟩ := some_at (v := v) (t := (i + j) / 2) (by omega)
      have g1 : (p ++ x :: (v ++ q))[0 + (m + (i + j) / 2)]? = some y := by
        have := at_mid (p := p ++ [x]) (r := q) (k := m + (i + j) / 2) hy (by simp; omega)
        simpa using this
      have g2 : (p ++ x :: (v ++ q))[0 + a]? = some x := by rw [Nat.zero_add, ha]; exact get_app _ _ _
      cases hc : lt y x with
      | true =>
        obtain ⟨T, k1, k2, k3, k4⟩ := ih ((i + j) / 2 + 1) j (by omega) (by omega) hj (by
          intro t z ht hz
          have : t = (i + j) / 2 := by omega
          subst this
          rw [hy] at hz; cases hz; exact hc) h2
        refine ⟨T, k1, k2, k3, fun self => ?_⟩
        rw [<- k4 self]
        refine loopO_inl ?_ rfl
        rw [g37, opt_t (by simp; omega), opt_chk (by decide), wm, Int.toNat_natCast, Int.toNat_natCast, opt_chk (by omega), opt_get g1, opt_chk (by omega), opt_get g2, opt_get (f16_eq y x), opt_t (by rw [rk_neg, hc]), opt_ret, wsucc (by omega)]
        rfl
      | false =>
        obtain ⟨T, k1, k2, k3, k4⟩ := ih i ((i + j) / 2) (by omega) (by omega) (by omega) h1 (by
          intro z hz
          rw [hy] at hz; cases hz; exact hc)
        refine ⟨T, k1, k2, k3, fun self => ?_⟩
        rw [<- k4 self]
        refine loopO_inl ?_ rfl
        rw [g37, opt_t (by simp; omega), opt_chk (by decide), wm, Int.toNat_natCast, Int.toNat_natCast, opt_chk (by omega), opt_get g1, opt_chk (by omega), opt_get g2, opt_get (f16_eq y x), opt_f (by rw [rk_neg, hc]), opt_ret]
theorem find_r {n0 a m : Nat} (hs : n0 <= BIG) {p u q : List Action} {x : Action} (ha : a = p.length) (hm : m = a + u.length) (hle : m < n0) :
    ∀ (k i j : Nat), j - i <= k -> i <= j -> j <= u.length -> (∀ t y, i = t + 1 -> u[t]? = some y -> lt x y = false) -> (∀ y, u[j]? = some y -> lt x y = true) ->
    ∃ T, T <= u.length ∧ (∀ t y, T = t + 1 -> u[t]? = some y -> lt x y = false) ∧ (∀ y, u[T]? = some y -> lt x y = true) ∧
      ∀ self, loopO (g37 self) (.h1 n0 (m : Int) (p ++ (u ++ x :: q)) ((a + i : Nat) : Int) ((a + j : Nat) : Int)) = loopO (g37 self) (.h4 n0 ((a + T : Nat) : Int) (m : Int) (p ++ (u ++ x :: q))) := by
  have hB : BIG = 1000000000 := rfl
  intro k
  induction k with
  | zero =>
    intro i j hk hij hj h1 h2
    have : i = j := by omega
    subst this
    refine ⟨i, hj, h1, h2, fun self => ?_⟩
    refine loopO_inl ?_ rfl
    rw [g37, opt_f (by simp), opt_ret]
  | succ k ih =>
    intro i j hk hij hj h1 h2
    rcases Nat.eq_or_lt_of_le hij with e | hlt
    · subst e
      refine ⟨i, hj, h1, h2, fun self => ?_⟩
      refine loopO_inl ?_ rfl
      rw [g37, opt_f (by simp), opt_ret]
    · have wm : IntKind.i64.wrap ((IntKind.u64.wrap (IntKind.i64.wrap (((a + i : Nat) : Int) + ((a + j : Nat) : Int)))).fdiv ((2 : Int) ^ (1 : Nat))) = ((a + (i + j) / 2 : Nat) : Int) := by
        rw [wmid (by omega)]; congr 1; omega
      obtain ⟨y, hy⟩ := some_at (v := u) (t := (i + j) / 2) (by omega)
      have g1 : (p ++ (u ++ x :: q))[0 + (a + (i + j) / 2)]? = some y := at_mid (p := p) (r := x :: q) hy (by omega)
      have g2 : (p ++ (u ++ x :: q))[0 + m]? = some x := by
        have := get_app (p ++ u) q x
        rw [Nat.zero_add, show m = (p ++ u).length by simp; omega]
        simp
      cases hc : lt x y with
      | false =>
        obtain ⟨T, k1, k2, k3, k4⟩ := ih ((i + j) / 2 + 1) j (by omega) (by omega) hj (by
          intro t z ht hz
          have : t = (i + j) / 2 := by omega
          subst this
          rw [hy] at hz; cases hz; exact hc) h2
        refine ⟨T, k1, k2, k3, fun self => ?_⟩
        rw [<- k4 self]
        refine loopO_inl ?_ rfl
        rw [g37, opt_t (by simp; omega), opt_chk (by decide), wm, Int.toNat_natCast, Int.toNat_natCast, opt_chk (by omega), opt_get g2, opt_chk (by omega), opt_get g1, opt_get (f16_eq x y), opt_t (by rw [rk_neg, hc]; rfl), opt_ret, wsucc (by omega)]
        rfl
      | true =>
        obtain ⟨T, k1, k2, k3, k4⟩ := ih i ((i + j) / 2) (by omega) (by omega) (by omega) h1 (by
          intro z hz
          rw [hy] at hz; cases hz; exact hc)
        refine ⟨T, k1, k2, k3, fun self => ?_⟩
        rw [<- k4 self]
        refine loopO_inl ?_ rfl
        rw [g37, opt_t (by simp; omega), opt_chk (by decide), wm, Int.toNat_natCast, Int.toNat_natCast, opt_chk (by omega), opt_get g2, opt_chk (by omega), opt_get g1, opt_get (f16_eq x y), opt_f (by rw [rk_neg, hc]; rfl), opt_ret]
end Go.Proofs.Act
/-
  Merging in place.
-/
namespace Go.Proofs.Act
open Go Go.Ab
set_option linter.unusedVariables false
set_option linter.unusedSimpArgs false
set_option maxRecDepth 100000
theorem mem_first {v : List Action} (hs : Srt lt v) {x z : Action} (hx : v[0]? = some x) (hz : z ∈ v) : lt z x = false := by
  obtain ⟨t, ht, rfl⟩ := List.mem_iff_getElem.1 hz
  exact hs.at ordL (Nat.zero_le t) hx (by simp [ht])
theorem mem_last {v : List Action} (hs : Srt lt v) {x z : Action} (hx : v[v.length - 1]? = some x) (hz : z ∈ v) : lt x z = false := by
  obtain ⟨t, ht, rfl⟩ := List.mem_iff_getElem.1 hz
  exact hs.at ordL (show t <= v.length - 1 by omega) (by simp [ht]) hx
theorem cut_four {u v : List Action} (hu : Srt lt u) (hv : Srt lt v) {d T : Nat} (h1 : T <= u.length) (h2 : T <= d) (h3 : d - T <= v.length)
    (hA : ∀ t x y, T = t + 1 -> u[t]? = some x -> v[d - 1 - t]? = some y -> lt y x = false)
    (hB : ∀ x y, T < d -> u[T]? = some x -> v[d - 1 - T]? = some y -> lt y x = true) :
    ∃ u1 u2 v1 v2, u = u1 ++ u2 ∧ v = v1 ++ v2 ∧ u1.length = T ∧ v1.length = d - T ∧ (∀ a ∈ u2, ∀ b ∈ v1, lt b a = true) ∧ ∀ a ∈ u1, ∀ b ∈ v2, lt b a = false := by
  obtain ⟨u1, u2, rfl, e1⟩ := cut_at h1
  obtain ⟨v1, v2, rfl, e2⟩ := cut_at h3
  refine ⟨u1, u2, v1, v2, rfl, rfl, e1, e2, ?_, ?_⟩
  · intro a ha b hb
    have hl : 0 < v1.length := List.length_pos_of_mem hb
    obtain ⟨x, hx⟩ := some_at (v := u2) (t := 0) (List.length_pos_of_mem ha)
    obtain ⟨y, hy⟩ := some_at (v := v1) (t := v1.length - 1) (by omega)
    have h := hB x y (by omega) (by rw [List.getElem?_append_right (by omega), e1, Nat.sub_self]; exact hx) (by
      rw [List.getElem?_append_left (by omega), show d - 1 - T = v1.length - 1 by omega]; exact hy)
    have k1 := mem_first hu.right hx ha
    have k2 := mem_last hv.left hy hb
    have : lt y a = true := ordL.lt_le h k1
    rcases ordL.co y b a this with h' | h'
    · rw [h'] at k2; cases k2
    · exact h'
  · intro a ha b hb
    have hl : 0 < u1.length := List.length_pos_of_mem ha
    obtain ⟨x, hx⟩ := some_at (v := u1) (t := u1.length - 1) (by omega)
    obtain ⟨y, hy⟩ := some_at (v := v2) (t := 0) (List.length_pos_of_mem hb)
    rcases Nat.lt_or_ge T d with hd | hd
    · have h := hA (T - 1) x y (by omega) (by rw [List.getElem?_append_left (by omega), <- e1]; exact hx) (by
        rw [List.getElem?_append_right (by omega), show d - 1 - (T - 1) - v1.length = 0 by omega]; exact hy)
      exact ordL.le_trans (ordL.le_trans (mem_last hu.left hx ha) h) (mem_first hv.right hy hb)
    · have h := hA (T - 1) x y (by omega) (by rw [List.getElem?_append_left (by omega), <- e1]; exact hx) (by
        rw [List.getElem?_append_right (by omega), show d - 1 - (T - 1) - v1.length = 0 by omega]; exact hy)
      exact ordL.le_trans (ordL.le_trans (mem_last hu.left hx ha) h) (mem_first hv.right hy hb)
section
variable {n0 a m b : Nat} {p u v q : List Action}
theorem search (hs : n0 <= BIG) (ha : a = p.length) (hm : m = a + u.length) (hb : b = m + v.length) (hle : b <= n0) {d : Nat} (hd : d = (a + b) / 2 - a) :
    ∀ (k s r : Nat), r - s <= k -> d - v.length <= s -> s <= r -> r <= u.length -> r <= d ->
      (∀ t x y, s = t + 1 -> d - v.length <= t -> u[t]? = some x -> v[d - 1 - t]? = some y -> lt y x = false) -> (∀ x y, r < d -> u[r]? = some x -> v[d - 1 - r]? = some y -> lt y x = true) ->
    ∃ T, d - v.length <= T ∧ T <= u.length ∧ T <= d ∧
      (∀ t x y, T = t + 1 -> d - v.length <= t -> u[t]? = some x -> v[d - 1 - t]? = some y -> lt y x = false) ∧ (∀ x y, T < d -> u[T]? = some x -> v[d - 1 - T]? = some y -> lt y x = true) ∧
      ∀ self, loopO (g37 self) (.h2 n0 (a : Int) (m : Int) (b : Int) (p ++ (u ++ (v ++ q))) ((a + r : Nat) : Int) ((a + s : Nat) : Int)) = loopO (g37 self) (.h2 n0 (a : Int) (m : Int) (b : Int) (p ++ (u ++ (v ++ q))) ((a + T : Nat) : Int) ((a + T : Nat) : Int)) := by
  have hB : BIG = 1000000000 := rfl
  intro k
  induction k with
  | zero =>
    intro s r hk h0 hsr hr hrd h1 h2
    have : s = r := by omega
    subst this
    exact ⟨s, h0, hr, hrd, h1, h2, fun self => rfl⟩
  | succ k ih =>
    intro s r hk h0 hsr hr hrd h1 h2
    rcases Nat.eq_or_lt_of_le hsr with e | hlt
    · subst e
      exact ⟨s, h0, hr, hrd, h1, h2, fun self => rfl⟩
    · have wm : IntKind.i64.wrap ((IntKind.u64.wrap (IntKind.i64.wrap (((a + s : Nat) : Int) + ((a + r : Nat) : Int)))).fdiv ((2 : Int) ^ (1 : Nat))) = ((a + (s + r) / 2 : Nat) : Int) := by
        rw [wmid (by omega)]; congr 1; omega
      have wd : IntKind.i64.wrap ((IntKind.u64.wrap (IntKind.i64.wrap ((a : Int) + (b : Int)))).fdiv ((2 : Int) ^ (1 : Nat))) = (((a + b) / 2 : Nat) : Int) := wmid (by omega)
      have wp : IntKind.i64.wrap (IntKind.i64.wrap (IntKind.i64.wrap ((((a + b) / 2 : Nat) : Int) + (m : Int)) - (1 : Int)) - ((a + (s + r) / 2 : Nat) : Int)) = ((m + (d - 1 - (s + r) / 2) : Nat) : Int) := by
        rw [w64 (x := (((a + b) / 2 : Nat) : Int) + (m : Int)) (by omega) (by omega), w64 (x := (((a + b) / 2 : Nat) : Int) + (m : Int) - 1) (by omega) (by omega), w64 (by omega) (by omega)]
        omega
      obtain ⟨x, hx⟩ := some_at (v := u) (t := (s + r) / 2) (by omega)
      obtain ⟨y, hy⟩ := some_at (v := v) (t := d - 1 - (s + r) / 2) (by omega)
      have g1 : (p ++ (u ++ (v ++ q)))[0 + (a + (s + r) / 2)]? = some x := at_mid hx (by omega)
      have g2 : (p ++ (u ++ (v ++ q)))[0 + (m + (d - 1 - (s + r) / 2))]? = some y := by
        have := at_mid (p := p ++ u) (r := q) (k := m + (d - 1 - (s + r) / 2)) hy (by simp; omega)
        simpa using this
      cases hc : lt y x with
      | false =>
        obtain ⟨T, k0, k1, k2, k3, k4, k5⟩ := ih ((s + r) / 2 + 1) r (by omega) (by omega) (by omega) hr hrd (by
          intro t x' y' ht _ hx' hy'
          have : t = (s + r) / 2 := by omega
          subst this
          rw [hx] at hx'; rw [hy] at hy'; cases hx'; cases hy'; exact hc) h2
        refine ⟨T, k0, k1, k2, k3, k4, fun self => ?_⟩
        rw [<- k5 self]
        refine loopO_inl ?_ rfl
        rw [g37, opt_t (by simp; omega), opt_chk (by decide), wm, wd, wp, Int.toNat_natCast, Int.toNat_natCast, opt_chk (by omega), opt_get g2, opt_chk (by omega), opt_get g1, opt_get (f16_eq y x), opt_t (by rw [rk_neg, hc]; rfl), opt_ret, wsucc (by omega)]
        rfl
      | true =>
        obtain ⟨T, k0, k1, k2, k3, k4, k5⟩ := ih s ((s + r) / 2) (by omega) h0 (by omega) (by omega) (by omega) h1 (by
          intro x' y' _ hx' hy'
          rw [hx] at hx'; rw [hy] at hy'; cases hx'; cases hy'; exact hc)
        refine ⟨T, k0, k1, k2, k3, k4, fun self => ?_⟩
        rw [<- k5 self]
        refine loopO_inl ?_ rfl
        rw [g37, opt_t (by simp; omega), opt_chk (by decide), wm, wd, wp, Int.toNat_natCast, Int.toNat_natCast, opt_chk (by omega), opt_get g2, opt_chk (by omega), opt_get g1, opt_get (f16_eq y x), opt_f (by rw [rk_neg, hc]; rfl), opt_ret]
end
end Go.Proofs.Act
/-
  Merging in place: what it comes to.
-/
namespace Go.Proofs.Act
open Go Go.Ab
set_option linter.unusedVariables false
set_option linter.unusedSimpArgs false
set_option maxRecDepth 100000
set_option maxHeartbeats 1000000
abbrev RL := Unit × List Action × Unit
def restT (self : Self) (n0 : Nat) (a i1 mid e b : Int) (L : List Action) : Cm (L37 ⊕ (RTup Th [] × OTup Th [.row 29])) :=
  .ite (decide (a < i1)) (.ite (decide (i1 < mid)) (.get (self (n0, a, i1, mid, (), ()) (L, ())) fun (y16 : RL) => (.ite (decide (mid < e)) (.ite (decide (e < b)) (.get (self (n0, mid, e, b, (), ()) (y16.snd.fst, ())) fun (y17 : RL) => (.ret (.inr (((), y17.snd.fst, ())))))
  (.ret (.inr (((), y16.snd.fst, ())))))
  (.ret (.inr (((), y16.snd.fst, ()))))))
  (.ite (decide (mid < e)) (.ite (decide (e < b)) (.get (self (n0, mid, e, b, (), ()) (L, ())) fun (y18 : RL) => (.ret (.inr (((), y18.snd.fst, ())))))
  (.ret (.inr (((), L, ())))))
  (.ret (.inr (((), L, ()))))))
  (.ite (decide (mid < e)) (.ite (decide (e < b)) (.get (self (n0, mid, e, b, (), ()) (L, ())) fun (y19 : RL) => (.ret (.inr (((), y19.snd.fst, ())))))
  (.ret (.inr (((), L, ())))))
  (.ret (.inr (((), L, ())))))
def halves (self : Self) (n0 : Nat) (a i1 mid e b : Int) (L : List Action) : Option RL :=
  (if a < i1 ∧ i1 < mid then self (n0, a, i1, mid, (), ()) (L, ()) else some ((), L, ())).bind fun y =>
  (if mid < e ∧ e < b then self (n0, mid, e, b, (), ()) (y.2.1, ()) else some ((), y.2.1, ())).bind fun z => some ((), z.2.1, ())
theorem rest_opt (self : Self) (n0 : Nat) (a i1 mid e b : Int) (L : List Action) : (restT self n0 a i1 mid e b L).opt = (halves self n0 a i1 mid e b L).map .inr := by
  unfold restT halves
  by_cases h1 : a < i1
  · by_cases h2 : i1 < mid
    · rw [opt_t (by simpa using h1), opt_t (by simpa using h2), if_pos ⟨h1, h2⟩]
      refine opt_bind.trans ?_
      cases hA : self (n0, a, i1, mid, (), ()) (L, ()) with
      | none => rfl
      | some y =>
        simp only [Option.bind_some]
        by_cases h3 : mid < e
        · by_cases h4 : e < b
          · rw [opt_t (by simpa using h3), opt_t (by simpa using h4), if_pos ⟨h3, h4⟩]
            refine opt_bind.trans ?_
            cases self (n0, mid, e, b, (), ()) (y.2.1, ()) <;> rfl
          · rw [opt_t (by simpa using h3), opt_f (by simpa using h4), if_neg (fun h => h4 h.2)]; rfl
        · rw [opt_f (by simpa using h3), if_neg (fun h => h3 h.1)]; rfl
    · rw [opt_t (by simpa using h1), opt_f (by simpa using h2), if_neg (fun h => h2 h.2)]
      simp only [Option.bind_some]
      by_cases h3 : mid < e
      · by_cases h4 : e < b
        · rw [opt_t (by simpa using h3), opt_t (by simpa using h4), if_pos ⟨h3, h4⟩]
          refine opt_bind.trans ?_
          cases self (n0, mid, e, b, (), ()) (L, ()) <;> rfl
        · rw [opt_t (by simpa using h3), opt_f (by simpa using h4), if_neg (fun h => h4 h.2)]; rfl
      · rw [opt_f (by simpa using h3), if_neg (fun h => h3 h.1)]; rfl
  · rw [opt_f (by simpa using h1), if_neg (fun h => h1 h.1)]
    simp only [Option.bind_some]
    by_cases h3 : mid < e
    · by_cases h4 : e < b
      · rw [opt_t (by simpa using h3), opt_t (by simpa using h4), if_pos ⟨h3, h4⟩]
        refine opt_bind.trans ?_
        cases self (n0, mid, e, b, (), ()) (L, ()) <;> rfl
      · rw [opt_t (by simpa using h3), opt_f (by simpa using h4), if_neg (fun h => h4 h.2)]; rfl
    · rw [opt_f (by simpa using h3), if_neg (fun h => h3 h.1)]; rfl
theorem fin_step {n0 a m b : Nat} (self : Self) (hs : n0 <= BIG) {p u1 u2 v1 v2 q : List Action} (ha : a = p.length) (hm : m = a + u1.length + u2.length) (hb : b = m + v1.length + v2.length) (hle : b <= n0)
    (hd : (a + b) / 2 = a + u1.length + v1.length) :
    (g37 self (.h2 n0 (a : Int) (m : Int) (b : Int) (p ++ (u1 ++ u2 ++ (v1 ++ v2 ++ q))) ((a + u1.length : Nat) : Int) ((a + u1.length : Nat) : Int))).opt =
      (halves self n0 (a : Int) ((a + u1.length : Nat) : Int) ((a + u1.length + v1.length : Nat) : Int) ((m + v1.length : Nat) : Int) (b : Int) (p ++ (u1 ++ (v1 ++ (u2 ++ (v2 ++ q)))))).map .inr := by
  have hB : BIG = 1000000000 := rfl
  have wd : IntKind.i64.wrap ((IntKind.u64.wrap (IntKind.i64.wrap ((a : Int) + (b : Int)))).fdiv ((2 : Int) ^ (1 : Nat))) = ((a + u1.length + v1.length : Nat) : Int) := by rw [wmid (by omega), hd]
  have we : IntKind.i64.wrap (IntKind.i64.wrap (((a + u1.length + v1.length : Nat) : Int) + (m : Int)) - ((a + u1.length : Nat) : Int)) = ((m + v1.length : Nat) : Int) := by
    rw [w64 (x := ((a + u1.length + v1.length : Nat) : Int) + (m : Int)) (by omega) (by omega), w64 (by omega) (by omega)]
    omega
  rw [g37, opt_f (by simp)]
  simp only [wd, we]
  change (Cm.ite (decide (((a + u1.length : Nat) : Int) < (m : Int))) (.ite (decide ((m : Int) < ((m + v1.length : Nat) : Int))) (.get (R45 (n0, ((a + u1.length : Nat) : Int), (m : Int), ((m + v1.length : Nat) : Int), (), ()) (p ++ (u1 ++ u2 ++ (v1 ++ v2 ++ q)), ())) fun (y15 : RL) => restT self n0 (a : Int) ((a + u1.length : Nat) : Int) ((a + u1.length + v1.length : Nat) : Int) ((m + v1.length : Nat) : Int) (b : Int) y15.snd.fst)
    (restT self n0 (a : Int) ((a + u1.length : Nat) : Int) ((a + u1.length + v1.length : Nat) : Int) ((m + v1.length : Nat) : Int) (b : Int) (p ++ (u1 ++ u2 ++ (v1 ++ v2 ++ q)))))
    (restT self n0 (a : Int) ((a + u1.length : Nat) : Int) ((a + u1.length + v1.length : Nat) : Int) ((m + v1.length : Nat) : Int) (b : Int) (p ++ (u1 ++ u2 ++ (v1 ++ v2 ++ q))))).opt = _
  by_cases hu2 : u2 = []
  · subst hu2
    simp only [List.length_nil, Nat.add_zero] at hm
    rw [opt_f (by simp; omega), rest_opt]
    simp
  · have h1 : 0 < u2.length := List.length_pos_iff.2 hu2
    rw [opt_t (by simp; omega)]
    by_cases hv1 : v1 = []
    · subst hv1
      rw [opt_f (by simp), rest_opt]
      simp
    · have h2 : 0 < v1.length := List.length_pos_iff.2 hv1
      rw [opt_t (by simp; omega)]
      have rot := rot_ok (n0 := n0) (a := a + u1.length) (m := m) (b := m + v1.length) hs (X := u2) (Y := v1) (p := p ++ u1) (q := v2 ++ q) hu2 hv1 (by simp; omega) (by simp; omega) rfl (by omega)
      have e1 : p ++ u1 ++ (u2 ++ (v1 ++ (v2 ++ q))) = p ++ (u1 ++ u2 ++ (v1 ++ v2 ++ q)) := by simp
      have e2 : p ++ u1 ++ (v1 ++ (u2 ++ (v2 ++ q))) = p ++ (u1 ++ (v1 ++ (u2 ++ (v2 ++ q)))) := by simp
      rw [e1, e2] at rot
      refine (opt_get rot).trans ?_
      exact rest_opt _ _ _ _ _ _ _ _
end Go.Proofs.Act
/-
  Two blocks in order, merged.
-/
namespace Go.Proofs.Act
open Go Go.Ab
set_option linter.unusedVariables false
set_option linter.unusedSimpArgs false
set_option maxRecDepth 100000
set_option maxHeartbeats 1000000
theorem sym_one_l {n0 a m b : Nat} (hs : n0 <= BIG) {p v q : List Action} {x : Action} (ha : a = p.length) (hm : m = a + 1) (hb : b = m + v.length) (hle : b <= n0) (hv : Srt lt v) :
    ∃ w, Stab lt (x :: v) w ∧ Srt lt w ∧ ∀ self, f37 self n0 (a : Int) (m : Int) (b : Int) (p ++ x :: (v ++ q)) = some ((), p ++ (w ++ q), ()) := by
  have hB : BIG = 1000000000 := rfl
  obtain ⟨T, h1, h2, h3, h4⟩ := find_l hs (p := p) (v := v) (q := q) (x := x) ha hm (by omega) v.length 0 v.length (by omega) (by omega) (by omega) (by intro t y ht; omega) (by intro y hy; rw [List.getElem?_eq_none (by omega)] at hy; cases hy)
  obtain ⟨v1, v2, rfl, e1⟩ := cut_at h1
  have k := put_l ordL (v1 := v1) (v2 := v2) (x := x) hv (by
    intro z hz
    have hl := List.length_pos_of_mem hz
    obtain ⟨y, hy⟩ := some_at (v := v1) (t := v1.length - 1) (by omega)
    have := h2 (T - 1) y (by omega) (by rw [List.getElem?_append_left (by omega), <- e1]; exact hy)
    have k := mem_last hv.left hy hz
    rcases ordL.co y z x this with h' | h'
    · rw [h'] at k; cases k
    · exact h') (by
    intro z hz
    obtain ⟨y, hy⟩ := some_at (v := v2) (t := 0) (List.length_pos_of_mem hz)
    have := h3 y (by rw [List.getElem?_append_right (by omega), e1, Nat.sub_self]; exact hy)
    exact ordL.le_trans this (mem_first hv.right hy hz))
  refine ⟨_, k.1, k.2, fun self => ?_⟩
  have bu := bub_up (n0 := n0) (i := m + T) self hs x v1 p (v2 ++ q) a ha (by omega) (by simp at hb; omega)
  unfold f37
  refine runO_inl (s' := .h0 n0 (a : Int) (p ++ x :: (v1 ++ v2 ++ q)) (m : Int) (b : Int)) ?_ ?_
  · unfold s37
    rw [opt_t (by rw [w64 (by omega) (by omega)]; simp; omega), opt_ret]
  · have e2 : ((m + (v1 ++ v2).length : Nat) : Int) = (b : Int) := by rw [hb]
    rw [e2] at h4
    refine Eq.trans (h4 self) ?_
    have e3 : p ++ x :: (v1 ++ v2 ++ q) = p ++ x :: (v1 ++ (v2 ++ q)) := by simp
    rw [e3, bu]
    simp
    rfl
theorem sym_one_r {n0 a m b : Nat} (hs : n0 <= BIG) {p u q : List Action} {x : Action} (ha : a = p.length) (hm : m = a + u.length) (hb : b = m + 1) (hle : b <= n0) (hn : u.length ≠ 1) (hu : Srt lt u) :
    ∃ w, Stab lt (u ++ [x]) w ∧ Srt lt w ∧ ∀ self, f37 self n0 (a : Int) (m : Int) (b : Int) (p ++ (u ++ x :: q)) = some ((), p ++ (w ++ q), ()) := by
  have hB : BIG = 1000000000 := rfl
  obtain ⟨T, h1, h2, h3, h4⟩ := find_r hs (p := p) (u := u) (q := q) (x := x) ha hm (by omega) u.length 0 u.length (by omega) (by omega) (by omega) (by intro t y ht; omega) (by intro y hy; rw [List.getElem?_eq_none (by omega)] at hy; cases hy)
  obtain ⟨u1, u2, rfl, e1⟩ := cut_at h1
  have k := put_r ordL (u1 := u1) (u2 := u2) (x := x) hu (by
    intro z hz
    have hl := List.length_pos_of_mem hz
    obtain ⟨y, hy⟩ := some_at (v := u1) (t := u1.length - 1) (by omega)
    have := h2 (T - 1) y (by omega) (by rw [List.getElem?_append_left (by omega), <- e1]; exact hy)
    exact ordL.le_trans (mem_last hu.left hy hz) this) (by
    intro z hz
    obtain ⟨y, hy⟩ := some_at (v := u2) (t := 0) (List.length_pos_of_mem hz)
    have := h3 y (by rw [List.getElem?_append_right (by omega), e1, Nat.sub_self]; exact hy)
    exact ordL.lt_le this (mem_first hu.right hy hz))
  refine ⟨_, k.1, k.2, fun self => ?_⟩
  have e0 : (u1 ++ u2).length = u1.length + u2.length := by simp
  have bu := bub_dn (n0 := n0) (i := a + T) self hs x (p := p ++ u1) (by simp; omega) _ u2 q m rfl (by omega) (by omega)
  unfold f37
  refine runO_inl (s' := .h1 n0 (m : Int) (p ++ (u1 ++ u2 ++ x :: q)) (a : Int) (m : Int)) ?_ ?_
  · unfold s37
    rw [opt_f (by rw [w64 (by omega) (by omega)]; simp; omega), opt_t (by rw [w64 (by omega) (by omega)]; simp; omega), opt_ret]
  · have e2 : ((a + (u1 ++ u2).length : Nat) : Int) = (m : Int) := by rw [hm]
    rw [e2] at h4
    refine Eq.trans (h4 self) ?_
    have e3 : p ++ (u1 ++ u2 ++ x :: q) = p ++ u1 ++ (u2 ++ x :: q) := by simp
    rw [e3, bu]
    simp
    rfl
theorem sym_eq {n0 a m b : Nat} (hs : n0 <= BIG) {p u v q : List Action} (ha : a = p.length) (hm : m = a + u.length) (hb : b = m + v.length) (hle : b <= n0) (hu : Srt lt u) (hv : Srt lt v) (u1 : 2 <= u.length) (v1 : 2 <= v.length) :
    ∃ u1 u2 v1 v2, u = u1 ++ u2 ∧ v = v1 ++ v2 ∧ (∀ a ∈ u2, ∀ b ∈ v1, lt b a = true) ∧ (∀ a ∈ u1, ∀ b ∈ v2, lt b a = false) ∧ u1.length + v1.length = (u.length + v.length) / 2 ∧
      ∀ self, f37 self n0 (a : Int) (m : Int) (b : Int) (p ++ (u ++ (v ++ q))) = halves self n0 (a : Int) ((a + u1.length : Nat) : Int) ((a + u1.length + v1.length : Nat) : Int) ((m + v1.length : Nat) : Int) (b : Int) (p ++ (u1 ++ (v1 ++ (u2 ++ (v2 ++ q))))) := by
  have hB : BIG = 1000000000 := rfl
  obtain ⟨d, hd⟩ : ∃ d, d = (u.length + v.length) / 2 := ⟨_, rfl⟩
  have hd' : d = (a + b) / 2 - a := by omega
  obtain ⟨T, k0, k1, k2, k3, k4, k5⟩ := search (n0 := n0) (a := a) (m := m) (b := b) (p := p) (u := u) (v := v) (q := q) hs ha hm hb hle hd' d (d - v.length) (min u.length d) (by omega) (Nat.le_refl _) (by omega) (by omega) (by omega)
    (by intro t x y ht ht'; omega) (by
      intro x y hr hx hy
      have : u.length <= min u.length d := by omega
      rw [List.getElem?_eq_none (by omega)] at hx; cases hx)
  obtain ⟨u1', u2', v1', v2', e1, e2, e3, e4, c1, c2⟩ := cut_four hu hv k1 k2 (by omega) (fun t x y ht hx hy => by
    have hl : d - 1 - t < v.length := by
      rcases Nat.lt_or_ge (d - 1 - t) v.length with h | h
      · exact h
      · rw [List.getElem?_eq_none h] at hy; cases hy
    exact k3 t x y ht (by omega) hx hy) k4
  refine ⟨u1', u2', v1', v2', e1, e2, c1, c2, by omega, fun self => ?_⟩
  subst e1
  subst e2
  simp only [List.length_append] at *
  have hf := fin_step (n0 := n0) (a := a) (m := m) (b := b) self hs (p := p) (u1 := u1') (u2 := u2') (v1 := v1') (v2 := v2') (q := q) ha (by omega) (by omega) hle (by omega)
  have wd : IntKind.i64.wrap ((IntKind.u64.wrap (IntKind.i64.wrap ((a : Int) + (b : Int)))).fdiv ((2 : Int) ^ (1 : Nat))) = (((a + b) / 2 : Nat) : Int) := wmid (by omega)
  unfold f37
  refine runO_inl (s' := .h2 n0 (a : Int) (m : Int) (b : Int) (p ++ (u1' ++ u2' ++ (v1' ++ v2' ++ q))) ((a + min (u1'.length + u2'.length) d : Nat) : Int) ((a + (d - (v1'.length + v2'.length)) : Nat) : Int)) ?_ ?_
  · unfold s37
    rw [opt_f (by rw [w64 (by omega) (by omega)]; simp; omega), opt_f (by rw [w64 (by omega) (by omega)]; simp; omega), opt_chk (by decide), wd]
    by_cases hmm : (a + b) / 2 < m
    · have w1 : IntKind.i64.wrap (IntKind.i64.wrap ((((a + b) / 2 : Nat) : Int) + (m : Int)) - (b : Int)) = ((a + (d - (v1'.length + v2'.length)) : Nat) : Int) := by
        rw [w64 (x := (((a + b) / 2 : Nat) : Int) + (m : Int)) (by omega) (by omega), w64 (by omega) (by omega)]; omega
      have w2 : (((a + b) / 2 : Nat) : Int) = ((a + min (u1'.length + u2'.length) d : Nat) : Int) := by omega
      rw [opt_t (by simpa using by omega), opt_ret, w1, <- w2]
    · have w1 : (a : Int) = ((a + (d - (v1'.length + v2'.length)) : Nat) : Int) := by omega
      have w2 : (m : Int) = ((a + min (u1'.length + u2'.length) d : Nat) : Int) := by omega
      rw [opt_f (by simpa using by omega), opt_ret, <- w1, <- w2]
  · refine Eq.trans (k5 self) ?_
    rw [<- e3, loopO_step, hf]
    cases halves self n0 (a : Int) ((a + u1'.length : Nat) : Int) ((a + u1'.length + v1'.length : Nat) : Int) ((m + v1'.length : Nat) : Int) (b : Int) (p ++ (u1' ++ (v1' ++ (u2' ++ (v2' ++ q))))) <;> rfl
end Go.Proofs.Act
/-
  Two blocks in order, merged, round by round; the stable sort.
-/
namespace Go.Proofs.Act
open Go Go.Ab
set_option linter.unusedVariables false
set_option linter.unusedSimpArgs false
set_option maxRecDepth 100000
set_option maxHeartbeats 1000000
def SymAt (n0 k : Nat) : Prop := ∀ (u v p q : List Action) (a m b : Nat), u.length + v.length <= k -> u ≠ [] -> v ≠ [] -> Srt lt u -> Srt lt v -> a = p.length -> m = a + u.length -> b = m + v.length -> b <= n0 ->
  ∃ w, Stab lt (u ++ v) w ∧ Srt lt w ∧ F37 k (n0, (a : Int), (m : Int), (b : Int), (), ()) (p ++ (u ++ (v ++ q)), ()) = some ((), p ++ (w ++ q), ()) ∧
    ∀ j r, F37 j (n0, (a : Int), (m : Int), (b : Int), (), ()) (p ++ (u ++ (v ++ q)), ()) = some r -> r = ((), p ++ (w ++ q), ())
theorem half_ok {n0 k : Nat} (ih : SymAt n0 k) {x y p q : List Action} {a m b : Nat} (hk : x.length + y.length <= k) (hx : Srt lt x) (hy : Srt lt y) (ha : a = p.length) (hm : m = a + x.length) (hb : b = m + y.length) (hle : b <= n0) :
    ∃ w, Stab lt (x ++ y) w ∧ Srt lt w ∧ (if (a : Int) < (m : Int) ∧ (m : Int) < (b : Int) then F37 k (n0, (a : Int), (m : Int), (b : Int), (), ()) (p ++ (x ++ (y ++ q)), ()) else some ((), p ++ (x ++ (y ++ q)), ())) = some ((), p ++ (w ++ q), ()) ∧
      ∀ j r, (if (a : Int) < (m : Int) ∧ (m : Int) < (b : Int) then F37 j (n0, (a : Int), (m : Int), (b : Int), (), ()) (p ++ (x ++ (y ++ q)), ()) else some ((), p ++ (x ++ (y ++ q)), ())) = some r -> r = ((), p ++ (w ++ q), ()) := by
  by_cases hx0 : x = []
  · subst hx0
    simp only [List.length_nil, Nat.add_zero] at hm
    refine ⟨y, Stab.refl _, hy, ?_, fun j r => ?_⟩
    · rw [if_neg (by omega)]; simp; rfl
    · rw [if_neg (by omega)]; intro h; cases h; simp; rfl
  · by_cases hy0 : y = []
    · subst hy0
      simp only [List.length_nil, Nat.add_zero] at hb
      refine ⟨x, by simpa using Stab.refl x, hx, ?_, fun j r => ?_⟩
      · rw [if_neg (by omega)]; simp; rfl
      · rw [if_neg (by omega)]; intro h; cases h; simp; rfl
    · have h1 := List.length_pos_iff.2 hx0
      have h2 := List.length_pos_iff.2 hy0
      obtain ⟨w, k1, k2, k3, k4⟩ := ih x y p q a m b hk hx0 hy0 hx hy ha hm hb hle
      refine ⟨w, k1, k2, ?_, fun j r => ?_⟩
      · rw [if_pos (by omega)]; exact k3
      · rw [if_pos (by omega)]; exact k4 j r
theorem sym_all {n0 : Nat} (hs : n0 <= BIG) : ∀ k, SymAt n0 k := by
  intro k
  induction k with
  | zero =>
    intro u v p q a m b hk hu
    exact absurd (List.length_eq_zero_iff.1 (by omega)) hu
  | succ k ih =>
    intro u v p q a m b hk hu0 hv0 hu hv ha hm hb hle
    have h1 := List.length_pos_iff.2 hu0
    have h2 := List.length_pos_iff.2 hv0
    have done : ∀ {w : List Action}, Stab lt (u ++ v) w -> Srt lt w -> (∀ self, f37 self n0 (a : Int) (m : Int) (b : Int) (p ++ (u ++ (v ++ q))) = some ((), p ++ (w ++ q), ())) ->
        ∃ w, Stab lt (u ++ v) w ∧ Srt lt w ∧ F37 (k + 1) (n0, (a : Int), (m : Int), (b : Int), (), ()) (p ++ (u ++ (v ++ q)), ()) = some ((), p ++ (w ++ q), ()) ∧
          ∀ j r, F37 j (n0, (a : Int), (m : Int), (b : Int), (), ()) (p ++ (u ++ (v ++ q)), ()) = some r -> r = ((), p ++ (w ++ q), ()) := by
      intro w k1 k2 k3
      refine ⟨w, k1, k2, k3 _, fun j r h => ?_⟩
      cases j with
      | zero => cases h
      | succ j =>
        have h' : f37 (F37 j) n0 (a : Int) (m : Int) (b : Int) (p ++ (u ++ (v ++ q))) = some r := h
        rw [k3] at h'
        cases h'; rfl
    by_cases e1 : u.length = 1
    · obtain ⟨x, rfl⟩ := List.length_eq_one_iff.1 e1
      obtain ⟨w, k1, k2, k3⟩ := sym_one_l (n0 := n0) (a := a) (m := m) (b := b) hs (p := p) (v := v) (q := q) (x := x) ha hm hb hle hv
      exact done k1 k2 k3
    · by_cases e2 : v.length = 1
      · obtain ⟨x, rfl⟩ := List.length_eq_one_iff.1 e2
        obtain ⟨w, k1, k2, k3⟩ := sym_one_r (n0 := n0) (a := a) (m := m) (b := b) hs (p := p) (u := u) (q := q) (x := x) ha hm hb hle e1 hu
        exact done k1 k2 k3
      · obtain ⟨u1, u2, v1, v2, rfl, rfl, c1, c2, hd, hf⟩ := sym_eq (n0 := n0) (a := a) (m := m) (b := b) hs (p := p) (q := q) ha hm hb hle hu hv (by omega) (by omega)
        simp only [List.length_append] at *
        obtain ⟨w1, m1, m2, m3, m4⟩ := half_ok ih (x := u1) (y := v1) (p := p) (q := u2 ++ (v2 ++ q)) (a := a) (m := a + u1.length) (b := a + u1.length + v1.length) (by omega) hu.left hv.left ha rfl rfl (by omega)
        have l1 : w1.length = u1.length + v1.length := by have := m1.1; simpa using this.symm
        obtain ⟨w2, n1, n2, n3, n4⟩ := half_ok ih (x := u2) (y := v2) (p := p ++ w1) (q := q) (a := a + u1.length + v1.length) (m := m + v1.length) (b := b) (by omega) hu.right hv.right (by simp; omega) (by omega) (by omega) hle
        have e3 : p ++ w1 ++ (u2 ++ (v2 ++ q)) = p ++ (w1 ++ (u2 ++ (v2 ++ q))) := by simp
        have e4 : p ++ w1 ++ (w2 ++ q) = p ++ ((w1 ++ w2) ++ q) := by simp
        rw [e3, e4] at n3 n4
        obtain ⟨s1, s2⟩ := four ordL hu hv c1 c2
        refine ⟨w1 ++ w2, s1.trans (m1.app n1), Srt.join ordL m1 n1 m2 n2 s2, ?_, fun j r h => ?_⟩
        · show f37 (F37 k) n0 (a : Int) (m : Int) (b : Int) (p ++ (u1 ++ u2 ++ (v1 ++ v2 ++ q))) = _
          rw [hf]
          unfold halves
          refine (congrArg (fun o => Option.bind o _) m3).trans ?_
          exact (congrArg (fun o => Option.bind o fun z => some ((), z.2.1, ())) n3).trans rfl
        · cases j with
          | zero => cases h
          | succ j =>
            have h' : f37 (F37 j) n0 (a : Int) (m : Int) (b : Int) (p ++ (u1 ++ u2 ++ (v1 ++ v2 ++ q))) = some r := h
            rw [hf] at h'
            unfold halves at h'
            obtain ⟨y, hy, h'⟩ := Option.bind_eq_some_iff.1 h'
            have := m4 j y hy
            subst this
            obtain ⟨z, hz, h'⟩ := Option.bind_eq_some_iff.1 h'
            have := n4 j z hz
            subst this
            cases h'
            rfl
theorem sym_ok {n0 a m b : Nat} (hs : n0 <= BIG) {u v p q : List Action} (hu0 : u ≠ []) (hv0 : v ≠ []) (hu : Srt lt u) (hv : Srt lt v) (ha : a = p.length) (hm : m = a + u.length) (hb : b = m + v.length) (hle : b <= n0) :
    ∃ w, Stab lt (u ++ v) w ∧ Srt lt w ∧ R37 (n0, (a : Int), (m : Int), (b : Int), (), ()) (p ++ (u ++ (v ++ q)), ()) = some ((), p ++ (w ++ q), ()) := by
  obtain ⟨w, k1, k2, k3, k4⟩ := sym_all hs _ u v p q a m b (Nat.le_refl _) hu0 hv0 hu hv ha hm hb hle
  refine ⟨w, k1, k2, ?_⟩
  unfold R37
  exact limF_of (n := u.length + v.length) k3 k4
end Go.Proofs.Act
/-
  The stable sort.
-/
namespace Go.Proofs.Act
open Go Go.Ab
set_option linter.unusedVariables false
set_option linter.unusedSimpArgs false
set_option maxRecDepth 100000
set_option maxHeartbeats 1000000
inductive Blk (s : Nat) : List Action -> Prop
  | last (l : List Action) : l.length <= s -> Srt lt l -> Blk s l
  | cons (x l : List Action) : x.length = s -> Srt lt x -> Blk s l -> Blk s (x ++ l)
theorem Blk.cut {s : Nat} {v : List Action} (h : Blk s v) (hl : s <= v.length) : ∃ x l, v = x ++ l ∧ x.length = s ∧ Srt lt x ∧ Blk s l := by
  cases h with
  | last _ h1 h2 => exact ⟨v, [], by simp, by omega, h2, .last [] (by simp) srt_nil⟩
  | cons x l h1 h2 h3 => exact ⟨x, l, rfl, h1, h2, h3⟩
theorem Blk.small {s : Nat} {v : List Action} (h : Blk s v) (hl : v.length <= s) : Srt lt v := by
  cases h with
  | last _ h1 h2 => exact h2
  | cons x l h1 h2 h3 =>
    simp only [List.length_append] at hl
    have : l = [] := List.length_eq_zero_iff.1 (by omega)
    subst this
    simpa using h2
theorem first_pass {n0 n : Nat} (hs : n0 <= BIG) (hn : n <= n0) (q : List Action) : ∀ (k : Nat) (v p : List Action) (a : Nat), v.length <= k -> a = p.length -> n = a + v.length ->
    ∃ w, Stab lt v w ∧ Blk 20 w ∧ loopO g29 (.h0 n0 (n : Int) ((a + 20 : Nat) : Int) (a : Int) (p ++ (v ++ q))) = loopO g29 (.h1 n0 (n : Int) ((), p ++ (w ++ q), ()) 20) := by
  have hB : BIG = 1000000000 := rfl
  intro k
  induction k with
  | zero =>
    intro v p a hk ha hv
    obtain ⟨w, k1, k2, k3⟩ := ins_ok (n0 := n0) (a := a) (b := n) hs (p := p) (u := v) (q := q) ha hv hn
    refine ⟨w, k1, .last w (by have := k1.1; omega) k2, ?_⟩
    refine loopO_inl ?_ rfl
    rw [g29, opt_f (by simp; omega)]
    refine (opt_get k3).trans ?_
    rfl
  | succ k ih =>
    intro v p a hk ha hv
    by_cases hle : a + 20 <= n
    · obtain ⟨v1, v2, rfl, h1⟩ := cut_at (l := v) (n := 20) (by omega)
      simp only [List.length_append] at hk hv
      obtain ⟨w1, k1, k2, k3⟩ := ins_ok (n0 := n0) (a := a) (b := a + 20) hs (p := p) (u := v1) (q := v2 ++ q) ha (by omega) (by omega)
      have l1 : w1.length = 20 := by rw [<- k1.1, h1]
      obtain ⟨w2, m1, m2, m3⟩ := ih v2 (p ++ w1) (a + 20) (by omega) (by simp; omega) (by omega)
      refine ⟨w1 ++ w2, k1.app m1, .cons w1 w2 l1 k2 m2, ?_⟩
      have e1 : p ++ w1 ++ (v2 ++ q) = p ++ (w1 ++ (v2 ++ q)) := by simp
      have e2 : p ++ w1 ++ (w2 ++ q) = p ++ (w1 ++ w2 ++ q) := by simp
      have e3 : p ++ (v1 ++ v2 ++ q) = p ++ (v1 ++ (v2 ++ q)) := by simp
      rw [e1, e2] at m3
      rw [<- m3, e3]
      refine loopO_inl ?_ rfl
      have w : IntKind.i64.wrap (((a + 20 : Nat) : Int) + 20) = ((a + 20 + 20 : Nat) : Int) := by rw [w64 (by omega) (by omega)]; omega
      rw [g29, opt_t (by simp; omega), w]
      refine (opt_get k3).trans ?_
      rfl
    · obtain ⟨w, k1, k2, k3⟩ := ins_ok (n0 := n0) (a := a) (b := n) hs (p := p) (u := v) (q := q) ha hv hn
      refine ⟨w, k1, .last w (by have := k1.1; omega) k2, ?_⟩
      refine loopO_inl ?_ rfl
      rw [g29, opt_f (by simp; omega)]
      refine (opt_get k3).trans ?_
      rfl
theorem merge_pass {n0 n s : Nat} (hs : n0 <= BIG) (hn : n <= n0) (s0 : 0 < s) (s1 : s < n) (q : List Action) : ∀ (k : Nat) (v p : List Action) (a : Nat), v.length <= k -> a = p.length -> n = a + v.length -> Blk s v ->
    ∃ w, Stab lt v w ∧ Blk (2 * s) w ∧ loopO g29 (.h2 n0 (n : Int) ((), p ++ (v ++ q), ()) ((a + 2 * s : Nat) : Int) (a : Int) (s : Int)) = loopO g29 (.h1 n0 (n : Int) ((), p ++ (w ++ q), ()) ((2 * s : Nat) : Int)) := by
  have hB : BIG = 1000000000 := rfl
  have w2 : IntKind.i64.wrap ((s : Int) * 2) = ((2 * s : Nat) : Int) := by rw [w64 (by omega) (by omega)]; omega
  have w2' : IntKind.i64.wrap (2 * (s : Int)) = ((2 * s : Nat) : Int) := by rw [w64 (by omega) (by omega)]; omega
  intro k
  induction k with
  | zero =>
    intro v p a hk ha hv hb
    refine ⟨v, Stab.refl v, .last v (by omega) (hb.small (by omega)), ?_⟩
    refine loopO_inl ?_ rfl
    have w1 : IntKind.i64.wrap ((a : Int) + (s : Int)) = ((a + s : Nat) : Int) := by rw [w64 (by omega) (by omega)]; omega
    rw [g29, opt_f (by simp; omega), w1, w2, opt_f (by simp; omega), opt_ret]
  | succ k ih =>
    intro v p a hk ha hv hb
    have w1 : IntKind.i64.wrap ((a : Int) + (s : Int)) = ((a + s : Nat) : Int) := by rw [w64 (by omega) (by omega)]; omega
    by_cases hle : a + 2 * s <= n
    · obtain ⟨x, v, rfl, hx, hxs, hb⟩ := hb.cut (by omega)
      simp only [List.length_append] at hk hv
      obtain ⟨y, v, rfl, hy, hys, hb⟩ := hb.cut (by omega)
      simp only [List.length_append] at hk hv
      obtain ⟨w, k1, k2, k3⟩ := sym_ok (n0 := n0) (a := a) (m := a + s) (b := a + 2 * s) hs (u := x) (v := y) (p := p) (q := v ++ q) (by intro e; subst e; simp at hx; omega) (by intro e; subst e; simp at hy; omega) hxs hys ha (by omega) (by omega) (by omega)
      have l1 : w.length = 2 * s := by have := k1.1; simp only [List.length_append] at this; omega
      obtain ⟨z, m1, m2, m3⟩ := ih v (p ++ w) (a + 2 * s) (by omega) (by simp; omega) (by omega) hb
      refine ⟨w ++ z, ?_, .cons w z l1 k2 m2, ?_⟩
      · have := k1.app m1
        simpa using this
      have e1 : p ++ w ++ (v ++ q) = p ++ (w ++ (v ++ q)) := by simp
      have e2 : p ++ w ++ (z ++ q) = p ++ (w ++ z ++ q) := by simp
      have e3 : p ++ (x ++ (y ++ v) ++ q) = p ++ (x ++ (y ++ (v ++ q))) := by simp
      rw [e1, e2] at m3
      rw [<- m3, e3]
      refine loopO_inl ?_ rfl
      have w3 : IntKind.i64.wrap (((a + 2 * s : Nat) : Int) + ((2 * s : Nat) : Int)) = ((a + 2 * s + 2 * s : Nat) : Int) := by rw [w64 (by omega) (by omega)]; omega
      rw [g29, opt_t (by simp; omega), w1, w2', w3]
      refine (opt_get k3).trans ?_
      rfl
    · by_cases hlt : a + s < n
      · obtain ⟨x, v, rfl, hx, hxs, hb⟩ := hb.cut (by omega)
        simp only [List.length_append] at hk hv
        have hvs : Srt lt v := hb.small (by omega)
        obtain ⟨w, k1, k2, k3⟩ := sym_ok (n0 := n0) (a := a) (m := a + s) (b := n) hs (u := x) (v := v) (p := p) (q := q) (by intro e; subst e; simp at hx; omega) (by intro e; subst e; simp at hv; omega) hxs hvs ha (by omega) (by omega) (by omega)
        have l1 : w.length = x.length + v.length := by have := k1.1; simp only [List.length_append] at this; omega
        refine ⟨w, k1, .last w (by omega) k2, ?_⟩
        have e3 : p ++ (x ++ v ++ q) = p ++ (x ++ (v ++ q)) := by simp
        rw [e3]
        refine loopO_inl ?_ rfl
        rw [g29, opt_f (by simp; omega), w1, w2, opt_t (by simp; omega)]
        refine (opt_get k3).trans ?_
        rfl
      · refine ⟨v, Stab.refl v, .last v (by omega) (hb.small (by omega)), ?_⟩
        refine loopO_inl ?_ rfl
        rw [g29, opt_f (by simp; omega), w1, w2, opt_f (by simp; omega), opt_ret]
theorem passes {n0 n : Nat} (hs : n0 <= BIG) (hn : n <= n0) (q : List Action) : ∀ (k s : Nat) (v : List Action), n - s <= k -> 0 < s -> n = v.length -> Blk s v ->
    ∃ w, Stab lt v w ∧ Srt lt w ∧ loopO g29 (.h1 n0 (n : Int) ((), v ++ q, ()) (s : Int)) = some ((), w ++ q, ()) := by
  have hB : BIG = 1000000000 := rfl
  intro k
  induction k with
  | zero =>
    intro s v hk s0 hv hb
    refine ⟨v, Stab.refl v, hb.small (by omega), ?_⟩
    refine loopO_inr ?_
    rw [g29, opt_f (by simp; omega), opt_ret]
    rfl
  | succ k ih =>
    intro s v hk s0 hv hb
    by_cases hlt : s < n
    · obtain ⟨w, k1, k2, k3⟩ := merge_pass (n0 := n0) (n := n) (s := s) hs hn s0 hlt q v.length v [] 0 (Nat.le_refl _) rfl (by omega) hb
      obtain ⟨z, m1, m2, m3⟩ := ih (2 * s) w (by omega) (by omega) (by have := k1.1; omega) k2
      refine ⟨z, k1.trans m1, m2, ?_⟩
      rw [List.nil_append, List.nil_append] at k3
      rw [<- m3, <- k3]
      refine loopO_inl ?_ rfl
      have w2' : IntKind.i64.wrap (2 * (s : Int)) = ((0 + 2 * s : Nat) : Int) := by rw [w64 (by omega) (by omega)]; omega
      rw [g29, opt_t (by simp; omega), opt_ret, w2']
      rfl
    · refine ⟨v, Stab.refl v, hb.small (by omega), ?_⟩
      refine loopO_inr ?_
      rw [g29, opt_f (by simp; omega), opt_ret]
      rfl
theorem sort_ok {n0 n : Nat} (hs : n0 <= BIG) (hn : n <= n0) {v q : List Action} (hv : n = v.length) :
    ∃ w, Stab lt v w ∧ Srt lt w ∧ R29 (n0, (n : Int), (), ()) (v ++ q, ()) = some ((), w ++ q, ()) := by
  obtain ⟨w, k1, k2, k3⟩ := first_pass (n0 := n0) (n := n) hs hn q v.length v [] 0 (Nat.le_refl _) rfl (by omega)
  obtain ⟨z, m1, m2, m3⟩ := passes (n0 := n0) (n := n) hs hn q n 20 w (by omega) (by omega) (by have := k1.1; omega) k2
  refine ⟨z, k1.trans m1, m2, ?_⟩
  rw [List.nil_append, List.nil_append] at k3
  unfold R29 f29 s29
  refine runO_inl rfl ?_
  exact k3.trans m3
end Go.Proofs.Act
/-
  Merge: what an action set is.
-/
namespace Go.Proofs.Act
open Go Go.Ab
set_option linter.unusedVariables false
set_option linter.unusedSimpArgs false
set_option maxRecDepth 100000
set_option maxHeartbeats 1000000
theorem brec_len {α : Type} (l : List α) : (List.brecOn.go (motive := fun _ => Nat) l List.length._f).1 = l.length := by delta List.length; rfl
def ok (a : Action) : Bool := !decide (pl a < 1)
theorem concat_ok {a b : List Action} (h : a.length + b.length <= BIG) : R11 (List.take (2 : Nat) (List.drop (0 : Nat) [a, b]), ()) () = some ((a ++ b, ()), ()) := by
  have hB : BIG = 1000000000 := rfl
  show f11 [a, b] = _
  unfold f11 s11
  have w0 : IntKind.i64.wrap (0 + (a.length : Int)) = (a.length : Int) := by rw [w64 (by omega) (by omega)]; omega
  have w1 : IntKind.i64.wrap ((a.length : Int) + (b.length : Int)) = ((a.length + b.length : Nat) : Int) := by rw [w64 (by omega) (by omega)]; omega
  refine runO_inl rfl ?_
  refine loopO_inl (s' := .h0 [a, b] 1 (a.length : Int)) ?_ ?_
  · rw [g11, opt_t (by simp), opt_chk (by decide), opt_get (x := a) (by rfl), w0, opt_f (by simp), opt_ret]; rfl
  refine loopO_inl (s' := .h0 [a, b] 2 ((a.length + b.length : Nat) : Int)) ?_ ?_
  · rw [g11, opt_t (by simp), opt_chk (by decide), opt_get (x := b) (by rfl), w1, opt_f (by simp; omega), opt_ret]; rfl
  refine loopO_inl (s' := .h1 [a, b] 0 []) ?_ ?_
  · rw [g11, opt_f (by simp), opt_chk (by omega)]
    refine (opt_chk (by rfl)).trans ?_
    rfl
  refine loopO_inl (s' := .h1 [a, b] 1 a) ?_ ?_
  · rw [g11, opt_t (by simp), opt_chk (by decide), opt_get (x := a) (by rfl), opt_chk (by simp; omega), opt_chk (by rfl), opt_ret]; rfl
  refine loopO_inl (s' := .h1 [a, b] 2 (a ++ b)) ?_ ?_
  · rw [g11, opt_t (by simp), opt_chk (by decide), opt_get (x := b) (by rfl), opt_chk (by simp; omega), opt_chk (by rfl), opt_ret]; rfl
  refine loopO_inr ?_
  rw [g11, opt_f (by simp), opt_chk (by rfl), opt_ret]
  rfl
theorem lasts_loop {n : Nat} (hn : n <= BIG) (q : List Action) (res : Option (List Action)) : ∀ (S P out : List Action), n = P.length + S.length -> out.length <= P.length -> some (out ++ lasts (eqv lt) S) = res ->
    loopO g7 (.h1 ((), P ++ S ++ q, ()) (P.length : Int) out n n (n : Int)) = res := by
  have hB : BIG = 1000000000 := rfl
  intro S
  induction S with
  | nil =>
    intro P out h1 h2 hr
    refine (loopO_inr ?_).trans hr
    simp only [List.length_nil, Nat.add_zero] at h1
    rw [g7, opt_f (by simp; omega), opt_chk (by omega), opt_ret]
    simp [lasts]
  | cons y S ih =>
    intro P out h1 h2 hr
    simp only [List.length_cons] at h1
    have g1 : (P ++ y :: S ++ q)[0 + P.length]? = some y := by simp
    have w1 : IntKind.i64.wrap ((P.length : Int) + 1) = (((P ++ [y]).length : Nat) : Int) := by rw [wsucc (by omega)]; simp
    have hl : (P ++ [y]).length = P.length + 1 := by simp
    have e1 : P ++ [y] ++ S ++ q = P ++ y :: S ++ q := by simp
    cases S with
    | nil =>
      simp only [List.length_nil] at h1
      have h := ih (P ++ [y]) (out ++ [y]) (by simp; omega) (by simp; omega) (by rw [<- hr]; simp [lasts])
      rw [e1] at h
      refine loopO_inl ?_ h
      rw [g7, opt_t (by simp; omega), Int.toNat_natCast, opt_chk (by omega)]
      refine (opt_get g1).trans ?_
      rw [w1, opt_t (by simp; omega), opt_chk (by simp), opt_chk (by simp; omega), opt_chk (by rfl), opt_ret]
      rfl
    | cons z S =>
      simp only [List.length_cons] at h1
      have g2 : (P ++ y :: (z :: S) ++ q)[0 + (P ++ [y]).length]? = some z := by
        rw [<- e1]; simp
      cases hc : eqv lt y z with
      | true =>
        have h := ih (P ++ [y]) out (by simp; omega) (by simp; omega) (by rw [<- hr, lasts, if_pos hc])
        rw [e1] at h
        refine loopO_inl ?_ h
        rw [g7, opt_t (by simp; omega), Int.toNat_natCast, opt_chk (by omega)]
        refine (opt_get g1).trans ?_
        rw [w1, opt_f (by simp; omega), Int.toNat_natCast, opt_chk (by omega)]
        refine (opt_get g2).trans ?_
        rw [opt_get (f16_eq y z), opt_f (by rw [rk_zero, hc]; rfl), opt_chk (by rfl), opt_ret]
      | false =>
        have h := ih (P ++ [y]) (out ++ [y]) (by simp; omega) (by simp; omega) (by rw [<- hr, lasts, if_neg (by rw [hc]; simp)]; simp)
        rw [e1] at h
        refine loopO_inl ?_ h
        rw [g7, opt_t (by simp; omega), Int.toNat_natCast, opt_chk (by omega)]
        refine (opt_get g1).trans ?_
        rw [w1, opt_f (by simp; omega), Int.toNat_natCast, opt_chk (by omega)]
        refine (opt_get g2).trans ?_
        rw [opt_get (f16_eq y z), opt_t (by rw [rk_zero, hc]; rfl), opt_chk (by simp), opt_chk (by simp; omega), opt_chk (by rfl), opt_ret]
        rfl
theorem sorted_end {n : Nat} (hn : n <= BIG) {l w q : List Action} (hl : n = w.length) : loopO g7 (.h1 ((), w ++ q, ()) 0 [] n n (n : Int)) = some (lasts (eqv lt) w) := by
  have := lasts_loop hn q (some (lasts (eqv lt) w)) w [] [] (by simpa using hl) (by simp) (by simp)
  simpa using this
theorem shift_loop : ∀ (R K G : List Action) (l : List Action), l = K ++ (G ++ R) -> G ≠ [] -> l.length <= BIG -> (∀ x ∈ K, ok x = true) ->
    ∃ w, Stab lt (K ++ R.filter ok) w ∧ Srt lt w ∧ loopO g7 (.h2 ((K.length + G.length : Nat) : Int) (K.length : Int) l) = some (lasts (eqv lt) w) := by
  have hB : BIG = 1000000000 := rfl
  intro R
  induction R with
  | nil =>
    intro K G l hl hG hn hK
    obtain ⟨w, k1, k2, k3⟩ := sort_ok (n0 := K.length) (n := K.length) (by subst hl; simp at hn; omega) (Nat.le_refl _) (v := K) (q := List.replicate G.length { Kind := 0, Field := 0, Value := 0 }) rfl
    refine ⟨w, by simpa using k1, k2, ?_⟩
    have hw : K.length = w.length := k1.1
    subst hl
    simp only [List.append_nil, List.length_append] at *
    refine loopO_inl ?_ (sorted_end (n := K.length) (l := w) (w := w) (q := List.replicate G.length { Kind := 0, Field := 0, Value := 0 }) (by omega) hw)
    have e1 : List.take (0 + K.length) (K ++ G) ++ (List.replicate ((K ++ G).length - K.length) ({ Kind := 0, Field := 0, Value := 0 } : Action) ++ List.drop (0 + K.length + ((K ++ G).length - K.length)) (K ++ G)) = K ++ List.replicate G.length { Kind := 0, Field := 0, Value := 0 } := by
      have : List.drop (0 + K.length + ((K ++ G).length - K.length)) (K ++ G) = [] := by
        apply List.drop_eq_nil_of_le; simp
      rw [this]; simp
    rw [g7, opt_f (by simp), Int.toNat_natCast, opt_chk (by simp; omega), opt_chk (by simp)]
    refine (opt_chk ?_).trans ?_
    · rw [brec_len]
      simp; omega
    rw [e1]
    refine (opt_get k3).trans ?_
    refine (opt_chk (by rfl)).trans ?_
    rfl
  | cons x R ih =>
    intro K G l hl hG hn hK
    obtain ⟨g, G', rfl⟩ := cut_first hG
    have hlen : l.length = K.length + (G'.length + 1) + (R.length + 1) := by subst hl; simp; omega
    have g1 : l[0 + (K.length + (g :: G').length)]? = some x := by
      have := get_app (K ++ (g :: G')) R x
      subst hl
      simp only [List.length_append, List.append_assoc] at this
      rw [Nat.zero_add]; exact this
    have g2 : l[0 + K.length]? = some g := by subst hl; simp
    have hg : (g :: G').length = G'.length + 1 := rfl
    have wi : IntKind.i64.wrap (((K.length + (g :: G').length : Nat) : Int) + 1) = ((K.length + (g :: G').length + 1 : Nat) : Int) := wsucc (by omega)
    cases hx : ok x with
    | true =>
      have hx' : decide (pl x < 1) = false := by unfold ok at hx; simpa using hx
      have es : l.set (0 + K.length) x = (K ++ [x]) ++ ((G' ++ [x]) ++ R) := by
        subst hl
        rw [Nat.zero_add]
        show (K ++ g :: (G' ++ x :: R)).set K.length x = _
        rw [set_app]; simp
      obtain ⟨w, k1, k2, k3⟩ := ih (K ++ [x]) (G' ++ [x]) _ es (by simp) (by simp; omega) (by
        intro y hy
        rcases List.mem_append.1 hy with h | h
        · exact hK y h
        · simp at h; subst h; exact hx)
      refine ⟨w, by simpa [List.filter_cons, hx] using k1, k2, ?_⟩
      rw [<- k3]
      refine loopO_inl ?_ rfl
      have wj : IntKind.i64.wrap ((K.length : Int) + 1) = ((K.length + 1 : Nat) : Int) := wsucc (by omega)
      rw [g7, opt_t (by simp; omega), Int.toNat_natCast, opt_chk (by omega), opt_get g1, opt_get (f13_eq x), opt_t (by rw [hx']; rfl), Int.toNat_natCast, opt_chk (by omega), opt_get g2, opt_chk (by simp), opt_ret, wi, wj]
      simp
      omega
    | false =>
      have hx' : decide (pl x < 1) = true := by unfold ok at hx; simpa using hx
      obtain ⟨w, k1, k2, k3⟩ := ih K (g :: G' ++ [x]) l (by subst hl; simp) (by simp) hn hK
      refine ⟨w, by simpa [List.filter_cons, hx] using k1, k2, ?_⟩
      rw [<- k3]
      refine loopO_inl ?_ rfl
      rw [g7, opt_t (by simp; omega), Int.toNat_natCast, opt_chk (by omega), opt_get g1, opt_get (f13_eq x), opt_f (by rw [hx']; rfl), opt_chk (by rfl), opt_ret, wi]
      simp
      omega
theorem index_loop {L : List Action} (hn : L.length <= BIG) : ∀ (R K : List Action), L = K ++ R -> (∀ x ∈ K, ok x = true) ->
    ∃ w, Stab lt (L.filter ok) w ∧ Srt lt w ∧ loopO g7 (.h0 ((L, ()), ()) (K.length : Int)) = some (lasts (eqv lt) w) := by
  have hB : BIG = 1000000000 := rfl
  intro R
  induction R with
  | nil =>
    intro K hl hK
    rw [List.append_nil] at hl
    subst hl
    obtain ⟨w, k1, k2, k3⟩ := sort_ok (n0 := L.length) (n := L.length) hn (Nat.le_refl _) (v := L) (q := []) rfl
    have hf : L.filter ok = L := List.filter_eq_self.2 hK
    refine ⟨w, by rw [hf]; exact k1, k2, ?_⟩
    rw [List.append_nil] at k3
    refine loopO_inl ?_ (sorted_end (n := L.length) (l := w) (w := w) (q := []) hn k1.1)
    rw [g7, opt_f (by simp), opt_t (by rfl)]
    refine (opt_get k3).trans ?_
    refine (opt_chk (by rfl)).trans ?_
    rfl
  | cons x R ih =>
    intro K hl hK
    have hlen : L.length = K.length + (R.length + 1) := by subst hl; simp
    have g1 : L[0 + K.length]? = some x := by subst hl; simp
    have wi : IntKind.i64.wrap ((K.length : Int) + 1) = ((K.length + 1 : Nat) : Int) := wsucc (by omega)
    cases hx : ok x with
    | true =>
      have hx' : decide (pl x < 1) = false := by unfold ok at hx; simpa using hx
      obtain ⟨w, k1, k2, k3⟩ := ih (K ++ [x]) (by simpa using hl) (by
        intro y hy
        rcases List.mem_append.1 hy with h | h
        · exact hK y h
        · simp at h; subst h; exact hx)
      refine ⟨w, k1, k2, ?_⟩
      rw [<- k3]
      refine loopO_inl ?_ rfl
      rw [g7, opt_t (by simp; omega), Int.toNat_natCast]
      refine (opt_chk (by simp; omega)).trans ?_
      refine (opt_get g1).trans ?_
      rw [opt_get (f13_eq x), opt_f hx', opt_chk (by rfl), opt_ret, wi]
      simp
    | false =>
      have hx' : decide (pl x < 1) = true := by unfold ok at hx; simpa using hx
      obtain ⟨w, k1, k2, k3⟩ := shift_loop R K [x] L (by simpa using hl) (by simp) hn hK
      have hf : L.filter ok = K ++ R.filter ok := by
        rw [hl, List.filter_append, List.filter_eq_self.2 hK, List.filter_cons, if_neg (by rw [hx]; simp)]
      refine ⟨w, by rw [hf]; exact k1, k2, ?_⟩
      rw [<- k3]
      refine loopO_inl ?_ rfl
      rw [g7, opt_t (by simp; omega), Int.toNat_natCast]
      refine (opt_chk (by simp; omega)).trans ?_
      refine (opt_get g1).trans ?_
      rw [opt_get (f13_eq x), opt_t hx', opt_f (by simp), opt_chk (by rfl), opt_ret, wi]
      rfl
theorem merge_ok {a b : List Action} (h : a.length + b.length <= BIG) : ∃ w, Stab lt ((a ++ b).filter ok) w ∧ Srt lt w ∧ f7 a b = some (lasts (eqv lt) w) := by
  obtain ⟨w, k1, k2, k3⟩ := index_loop (L := a ++ b) (by simpa using h) (a ++ b) [] rfl (by simp)
  refine ⟨w, k1, k2, ?_⟩
  unfold f7 s7
  refine runO_inl ?_ k3
  refine (opt_chk (Nat.le_refl 2)).trans ?_
  refine (opt_get (concat_ok h)).trans ?_
  refine (opt_chk (by rfl)).trans ?_
  rfl
end Go.Proofs.Act
/-
  What an action set is: of each kind the last one, in order.
-/
namespace Go.Proofs.Act
open Go Go.Ab
set_option linter.unusedVariables false
set_option linter.unusedSimpArgs false
set_option maxRecDepth 100000
set_option maxHeartbeats 1000000
def Str (l : List Action) : Prop := l.Pairwise fun a b => lt a b = true
def Last (l : List Action) (x : Action) : Prop := ok x = true ∧ ∃ P Q, l = P ++ x :: Q ∧ ∀ y ∈ Q, eqv lt x y = false
theorem lasts_sub {eq : Action -> Action -> Bool} : ∀ (l : List Action) {x : Action}, x ∈ lasts eq l -> x ∈ l := by
  intro l
  induction l with
  | nil => intro x h; simp [lasts] at h
  | cons a l ih =>
    intro x h
    cases l with
    | nil => simpa [lasts] using h
    | cons b l =>
      simp only [lasts] at h
      split at h
      · exact List.mem_cons_of_mem _ (ih h)
      · rcases List.mem_cons.1 h with e | h
        · subst e; simp
        · exact List.mem_cons_of_mem _ (ih h)
theorem lasts_len {eq : Action -> Action -> Bool} : ∀ (l : List Action), (lasts eq l).length <= l.length := by
  intro l
  induction l with
  | nil => simp [lasts]
  | cons a l ih =>
    cases l with
    | nil => simp [lasts]
    | cons b l =>
      simp only [lasts]
      split
      · simp only [List.length_cons] at *; omega
      · simp only [List.length_cons] at *; omega
theorem lasts_str : ∀ {l : List Action}, Srt lt l -> Str (lasts (eqv lt) l) := by
  intro l
  induction l with
  | nil => intro _; simp [lasts, Str]
  | cons a l ih =>
    intro h
    have hl : Srt lt l := (List.pairwise_cons.1 h).2
    have ha : ∀ b ∈ l, lt b a = false := (List.pairwise_cons.1 h).1
    cases l with
    | nil => simp [lasts, Str]
    | cons b l =>
      simp only [lasts]
      split
      · exact ih hl
      · rename_i hab
        refine List.pairwise_cons.2 ⟨fun c hc => ?_, ih hl⟩
        have hc := lasts_sub _ hc
        have hlt : lt a b = true := by
          cases hc : lt a b with
          | true => rfl
          | false => exact absurd (eqv_iff.2 ⟨hc, ha b (by simp)⟩) hab
        refine ordL.lt_le hlt ?_
        rcases List.mem_cons.1 hc with e | hc
        · subst e; exact ordL.irr _
        · exact (List.pairwise_cons.1 hl).1 c hc
theorem last_split {p : Action -> Bool} {x : Action} : ∀ (n : Nat) (l : List Action), l.length = n -> ((l.filter p).getLast? = some x ↔ p x = true ∧ ∃ P Q, l = P ++ x :: Q ∧ ∀ y ∈ Q, p y = false) := by
  intro n
  induction n with
  | zero =>
    intro l hl
    have : l = [] := List.length_eq_zero_iff.1 hl
    subst this
    simp
  | succ n ih =>
    intro l hl
    obtain ⟨l, a, rfl⟩ := cut_last (l := l) (by intro e; subst e; simp at hl)
    have hl : l.length = n := by simpa using hl
    rw [List.filter_append]
    cases ha : p a with
    | true =>
      rw [List.filter_cons, if_pos ha, List.filter_nil, List.getLast?_concat]
      constructor
      · intro h
        cases h
        exact ⟨ha, l, [], rfl, by simp⟩
      · rintro ⟨hx, P, Q, h1, h2⟩
        rcases Nat.eq_zero_or_pos Q.length with e | e
        · have : Q = [] := List.length_eq_zero_iff.1 e
          subst this
          obtain ⟨_, h⟩ := List.append_inj' h1 rfl
          cases h; rfl
        · obtain ⟨Q, b, rfl⟩ := cut_last (l := Q) (by intro h; subst h; simp at e)
          have h3 : l ++ [a] = (P ++ x :: Q) ++ [b] := by rw [h1]; simp
          obtain ⟨_, h⟩ := List.append_inj' h3 rfl
          cases h
          rw [h2 a (by simp)] at ha; cases ha
    | false =>
      rw [List.filter_cons, if_neg (by rw [ha]; simp), List.filter_nil, List.append_nil, ih l hl]
      constructor
      · rintro ⟨hx, P, Q, rfl, h2⟩
        refine ⟨hx, P, Q ++ [a], by simp, fun y hy => ?_⟩
        rcases List.mem_append.1 hy with h | h
        · exact h2 y h
        · simp at h; subst h; exact ha
      · rintro ⟨hx, P, Q, h1, h2⟩
        rcases Nat.eq_zero_or_pos Q.length with e | e
        · have : Q = [] := List.length_eq_zero_iff.1 e
          subst this
          obtain ⟨_, h⟩ := List.append_inj' h1 rfl
          cases h
          rw [ha] at hx; cases hx
        · obtain ⟨Q, b, rfl⟩ := cut_last (l := Q) (by intro h; subst h; simp at e)
          have h3 : l ++ [a] = (P ++ x :: Q) ++ [b] := by rw [h1]; simp
          obtain ⟨h, _⟩ := List.append_inj' h3 rfl
          exact ⟨hx, P, Q, h, fun y hy => h2 y (by simp [hy])⟩
theorem ok_eqv {x y : Action} (hx : ok x = true) (h : eqv lt x y = true) : ok y = true := by
  obtain ⟨h1, _⟩ := eqvL.1 h
  unfold ok at *
  rw [<- h1]; exact hx
theorem eqv_refl (x : Action) : eqv lt x x = true := eqv_iff.2 ⟨ordL.irr x, ordL.irr x⟩
theorem last_filter {l : List Action} {x : Action} : (((l.filter ok).filter (eqv lt x)).getLast? = some x) ↔ Last l x := by
  rw [List.filter_filter, last_split _ l rfl]
  unfold Last
  constructor
  · rintro ⟨h1, P, Q, h2, h3⟩
    have hx : ok x = true := by
      cases h : ok x with
      | true => rfl
      | false => rw [h] at h1; simp at h1
    refine ⟨hx, P, Q, h2, fun y hy => ?_⟩
    have := h3 y hy
    cases he : eqv lt x y with
    | false => rfl
    | true => rw [he, ok_eqv hx he] at this; cases this
  · rintro ⟨h1, P, Q, h2, h3⟩
    refine ⟨by rw [eqv_refl, h1]; rfl, P, Q, h2, fun y hy => by rw [h3 y hy]; rfl⟩
theorem str_ext : ∀ {l m : List Action}, Str l -> Str m -> (∀ x, x ∈ l ↔ x ∈ m) -> l = m := by
  intro l
  induction l with
  | nil =>
    intro m _ _ h
    cases m with
    | nil => rfl
    | cons b m => exact absurd ((h b).2 (by simp)) (by simp)
  | cons a l ih =>
    intro m hl hm h
    cases m with
    | nil => exact absurd ((h a).1 (by simp)) (by simp)
    | cons b m =>
      obtain ⟨la, ll⟩ := List.pairwise_cons.1 hl
      obtain ⟨mb, mm⟩ := List.pairwise_cons.1 hm
      have hab : a = b := by
        rcases List.mem_cons.1 ((h a).1 (by simp)) with e | e
        · exact e
        · rcases List.mem_cons.1 ((h b).2 (by simp)) with e' | e'
          · exact e'.symm
          · have h1 := mb a e
            have h2 := la b e'
            have := ordL.tr a b a h2 h1
            rw [ordL.irr] at this; cases this
      subst hab
      have := ih ll mm (fun x => ?_)
      · rw [this]
      · constructor
        · intro hx
          rcases List.mem_cons.1 ((h x).1 (List.mem_cons_of_mem _ hx)) with e | e
          · subst e
            have := la x hx
            rw [ordL.irr] at this; cases this
          · exact e
        · intro hx
          rcases List.mem_cons.1 ((h x).2 (List.mem_cons_of_mem _ hx)) with e | e
          · subst e
            have := mb x hx
            rw [ordL.irr] at this; cases this
          · exact e
structure IsMg (l r : List Action) : Prop where
  str : Str r
  mem : ∀ x, x ∈ r ↔ Last l x
  len : r.length <= l.length
theorem IsMg.one {l r r' : List Action} (h : IsMg l r) (h' : IsMg l r') : r = r' := str_ext h.str h'.str fun x => (h.mem x).trans (h'.mem x).symm
theorem merge_is {a b : List Action} (h : a.length + b.length <= BIG) : ∃ r, f7 a b = some r ∧ IsMg (a ++ b) r := by
  obtain ⟨w, k1, k2, k3⟩ := merge_ok h
  refine ⟨_, k3, lasts_str k2, fun x => ?_, ?_⟩
  · rw [lasts_mem ordL k2, <- k1.2 x]
    exact last_filter
  · have h1 := lasts_len (eq := eqv lt) w
    have h2 := List.length_filter_le ok (a ++ b)
    have h3 := k1.1
    omega
theorem Last.app {a r c : List Action} (h : IsMg a r) {x : Action} : Last (r ++ c) x ↔ Last (a ++ c) x := by
  constructor
  · rintro ⟨hx, P, Q, h1, h2⟩
    refine ⟨hx, ?_⟩
    rcases List.append_eq_append_iff.1 h1 with ⟨t, e1, e2⟩ | ⟨t, e1, e2⟩
    · subst e1 
      refine ⟨a ++ t, Q, by rw [e2]; simp, h2⟩
    · cases t with
      | nil =>
        simp only [List.append_nil, List.nil_append] at e1 e2
        exact ⟨a, Q, by rw [e2], h2⟩
      | cons z t =>
        rw [List.cons_append] at e2
        cases e2
        have : x ∈ r := by rw [e1]; simp
        obtain ⟨_, P', Q', e3, h3⟩ := (h.mem x).1 this
        refine ⟨P', Q' ++ c, by rw [e3]; simp, fun y hy => ?_⟩
        rcases List.mem_append.1 hy with h | h
        · exact h3 y h
        · exact h2 y (by simp [h])
  · rintro ⟨hx, P, Q, h1, h2⟩
    refine ⟨hx, ?_⟩
    rcases List.append_eq_append_iff.1 h1 with ⟨t, e1, e2⟩ | ⟨t, e1, e2⟩
    · subst e1
      refine ⟨r ++ t, Q, by rw [e2]; simp, h2⟩
    · cases t with
      | nil =>
        simp only [List.append_nil, List.nil_append] at e1 e2
        exact ⟨r, Q, by rw [e2], h2⟩
      | cons z t =>
        rw [List.cons_append] at e2
        cases e2
        have hl : Last a x := ⟨hx, P, t, e1, fun y hy => h2 y (by simp [hy])⟩
        obtain ⟨P', Q', e3⟩ := List.append_of_mem ((h.mem x).2 hl)
        refine ⟨P', Q' ++ c, by rw [e3]; simp, fun y hy => ?_⟩
        rcases List.mem_append.1 hy with h' | h'
        · have hs := h.str
          rw [e3] at hs
          have := (List.pairwise_cons.1 (List.pairwise_append.1 hs).2.1).1 y h'
          cases he : eqv lt x y with
          | false => rfl
          | true => rw [(eqv_iff.1 he).1] at this; cases this
        · exact h2 y (by simp [h'])
theorem Last.twice {a r : List Action} (h : IsMg a r) {x : Action} : Last (r ++ r) x ↔ x ∈ r := by
  rw [Last.app h]
  constructor
  · rintro ⟨hx, P, Q, h1, h2⟩
    rcases List.append_eq_append_iff.1 h1 with ⟨t, e1, e2⟩ | ⟨t, e1, e2⟩
    · rw [e2]; simp
    · cases t with
      | nil => simp only [List.nil_append] at e2; rw [<- e2]; simp
      | cons z t =>
        rw [List.cons_append] at e2
        cases e2
        exact (h.mem x).2 ⟨hx, P, t, e1, fun y hy => h2 y (by simp [hy])⟩
  · intro hr
    obtain ⟨hx, _⟩ := (h.mem x).1 hr
    obtain ⟨P', Q', e3⟩ := List.append_of_mem hr
    refine ⟨hx, a ++ P', Q', by rw [e3]; simp, fun y hy => ?_⟩
    have hs := h.str
    rw [e3] at hs
    have := (List.pairwise_cons.1 (List.pairwise_append.1 hs).2.1).1 y hy
    cases he : eqv lt x y with
    | false => rfl
    | true => rw [(eqv_iff.1 he).1] at this; cases this
end Go.Proofs.Act
/-
  ActSets: what holds of action sets.
-/
namespace Go.Proofs.Act
open Go Go.Ab
set_option linter.unusedVariables false
set_option linter.unusedSimpArgs false
set_option maxRecDepth 100000
set_option maxHeartbeats 1000000
theorem same_loop {l : List Action} (hl : l.length <= BIG) : ∀ (k i : Nat), l.length - i = k -> i <= l.length -> loopO g6 (.h0 l l (i : Int)) = some true := by
  have hB : BIG = 1000000000 := rfl
  intro k
  induction k with
  | zero =>
    intro i hk hi
    refine loopO_inr ?_
    rw [g6, opt_f (by simp; omega), opt_ret]
  | succ k ih =>
    intro i hk hi
    obtain ⟨y, hy⟩ := some_at (v := l) (t := i) (by omega)
    refine loopO_inl ?_ (ih (i + 1) (by omega) (by omega))
    rw [g6, opt_t (by simp; omega), Int.toNat_natCast, opt_chk (by omega), opt_get hy, opt_chk (by omega), opt_get hy, opt_f (by simp), opt_ret, wsucc (by omega)]
theorem same_ok {l : List Action} (hl : l.length <= BIG) : f6 l l = some true := by
  unfold f6 s6
  exact runO_inl (by rw [opt_f (by simp), opt_ret]; rfl) (same_loop hl l.length 0 (by omega) (by omega))
theorem kinds {x y : Action} (h : lt x y = true) (hk : y.Kind = x.Kind) : y.Kind = 5 ∧ x.Field < y.Field := by
  have hp : pl y = pl x := by unfold pl; rw [hk]
  unfold lt at h
  rw [decide_eq_true_eq] at h
  have hf : fld x < fld y := by omega
  unfold fld at hf
  rw [hk] at hf
  by_cases h5 : x.Kind = 5
  · rw [if_pos h5, if_pos h5] at hf
    exact ⟨by rw [hk, h5], hf⟩
  · rw [if_neg h5, if_neg h5] at hf
    omega
end Go.Proofs.Act
/-
  The document's Merge; ActMerges.
-/
namespace Go.Proofs.Act
open Go Go.Ab
set_option linter.unusedVariables false
set_option linter.unusedSimpArgs false
set_option maxRecDepth 100000
set_option maxHeartbeats 1000000
theorem f17_eq (a : Action) : f17 a = if ok a = true then pl a - 1 else -1 := by
  unfold f17 u17 ok pl
  simp only [tot_ite, tot_ret, decide_eq_true_eq, Bool.not_eq_true', decide_eq_false_iff_not]
  by_cases h0 : a.Kind = 0
  · simp [h0]
  · repeat' split
    all_goals first | rfl | omega
theorem f17_ok (a : Action) : decide (0 <= f17 a) = ok a := by
  rw [f17_eq]
  cases h : ok a with
  | true =>
    unfold ok at h
    simp only [Bool.not_eq_true', decide_eq_false_iff_not] at h
    simp; omega
  | false => simp
theorem pl_kind {a b : Action} (ha : ok a = true) : pl a = pl b ↔ a.Kind = b.Kind := by
  unfold ok at ha
  simp only [Bool.not_eq_true', decide_eq_false_iff_not] at ha
  constructor
  · intro h
    rw [h] at ha
    revert h ha
    unfold pl
    repeat' split
    all_goals omega
  · intro h
    unfold pl; rw [h]
theorem f18_eq {a b : Action} (ha : ok a = true) : f18 a b = eqv lt a b := by
  have hk := pl_kind (b := b) ha
  have he : eqv lt a b = decide (pl a = pl b ∧ fld a = fld b) := by
    cases h : eqv lt a b with
    | true => exact (decide_eq_true (eqvL.1 h)).symm
    | false => exact (decide_eq_false fun h' => by rw [eqvL.2 h'] at h; cases h).symm
  rw [he]
  unfold f18 u18
  simp only [tot_ite, tot_ret, decide_eq_true_eq, Bool.not_eq_true', decide_eq_false_iff_not]
  by_cases h1 : a.Kind = b.Kind
  · rw [if_pos h1]
    have h2 := hk.2 h1
    by_cases h5 : a.Kind = 5
    · rw [if_neg (by simp [h5])]
      unfold fld
      rw [if_pos h5, if_pos (by rw [<- h1]; exact h5)]
      simp [h2]
    · rw [if_pos h5]
      unfold fld
      rw [if_neg h5, if_neg (by rw [<- h1]; exact h5)]
      simp [h2]
  · rw [if_neg h1]
    have : ¬ pl a = pl b := fun h => h1 (hk.1 h)
    simp [this]
theorem f19_eq {a b : Action} (ha : ok a = true) (hb : ok b = true) : f19 a b = lt a b := by
  have hk := pl_kind (b := b) ha
  unfold f19 u19 lt
  simp only [tot_ite, tot_ret, decide_eq_true_eq, f17_eq, if_pos ha, if_pos hb]
  by_cases h1 : pl a < pl b
  · rw [if_pos (by omega)]; simp [h1]
  · rw [if_neg (by omega)]
    by_cases h2 : pl a = pl b
    · rw [if_pos (by omega)]
      have h3 := hk.1 h2
      unfold fld
      by_cases h5 : a.Kind = 5
      · rw [if_pos h5, if_pos h5, if_pos (by rw [<- h3]; exact h5)]; simp [h1, h2]
      · rw [if_neg h5, if_neg h5, if_neg (by rw [<- h3]; exact h5)]; simp [h1, h2]
    · rw [if_neg (by omega)]; simp [h1, h2]
section
variable {a b : List Action}
theorem flag_loop (hn : (a ++ b).length <= BIG) {P : List Action} {x : Action} (out : List Action) (res : Option (List Action)) : ∀ (Q2 Q1 : List Action) (fl : Bool), a ++ b = P ++ x :: (Q1 ++ Q2) ->
    (fl = true -> ok x = true) -> loopO g8 (if (fl && Q2.all fun y => !eqv lt x y) = true then .h2 a b 0 (P.length : Int) out else .h0 a b ((P.length + 1 : Nat) : Int) out) = res ->
    loopO g8 (.h1 a b ((P.length + 1 + Q1.length : Nat) : Int) fl (P.length : Int) out) = res := by
  have hB : BIG = 1000000000 := rfl
  intro Q2
  induction Q2 with
  | nil =>
    intro Q1 fl hA hx hr
    have hl : (a ++ b).length = P.length + 1 + Q1.length := by rw [hA]; simp; omega
    refine loopO_inl ?_ hr
    rw [g8, opt_f (by simp only [decide_eq_false_iff_not]; omega)]
    cases fl with
    | true => rw [opt_f (by rfl), opt_chk (by rfl), opt_ret]; rfl
    | false => rw [opt_t (by rfl), opt_chk (by rfl), opt_chk (by rfl), opt_ret, wsucc (by omega)]; rfl
  | cons y Q2 ih =>
    intro Q1 fl hA hx hr
    have hl : (a ++ b).length = P.length + 1 + Q1.length + (Q2.length + 1) := by rw [hA]; simp; omega
    have hA2 : a ++ b = P ++ x :: ((Q1 ++ [y]) ++ Q2) := by rw [hA]; simp
    have g1 : (a ++ b)[0 + P.length]? = some x := by rw [hA]; simp
    have g2 : (a ++ b)[0 + (P.length + 1 + Q1.length)]? = some y := by
      rw [hA, show P ++ x :: (Q1 ++ y :: Q2) = (P ++ x :: Q1) ++ y :: Q2 by simp, show 0 + (P.length + 1 + Q1.length) = (P ++ x :: Q1).length by simp; omega]
      exact get_app _ _ _
    have wk : IntKind.i64.wrap (((P.length + 1 + Q1.length : Nat) : Int) + 1) = ((P.length + 1 + (Q1 ++ [y]).length : Nat) : Int) := by rw [wsucc (by omega)]; simp; omega
    cases fl with
    | true =>
      have h := ih (Q1 ++ [y]) (!eqv lt x y) hA2 (fun _ => hx rfl) (by rw [<- hr]; simp [List.all_cons])
      refine loopO_inl ?_ h
      rw [g8, opt_t (by simp only [decide_eq_true_eq]; omega), opt_t (by rfl), Int.toNat_natCast, Int.toNat_natCast, opt_chk (by omega), opt_get g1, opt_chk (by omega), opt_get g2, opt_chk (by rfl), opt_ret, f18_eq (hx rfl), wk]
    | false =>
      have h := ih (Q1 ++ [y]) false hA2 (fun h => by cases h) (by rw [<- hr]; simp)
      refine loopO_inl ?_ h
      rw [g8, opt_t (by simp only [decide_eq_true_eq]; omega), opt_f (by rfl), opt_chk (by rfl), opt_ret, wk]
theorem ins_loop (hn : (a ++ b).length <= BIG) {P Q : List Action} {x : Action} (hA : a ++ b = P ++ x :: Q) (hx : ok x = true) : ∀ (O2 O1 : List Action), (∀ z ∈ O2, ok z = true) -> (O1 ++ O2).length <= BIG -> (∀ z ∈ O1, lt z x = true) ->
    ∃ R1 R2, O1 ++ O2 = R1 ++ R2 ∧ (∀ z ∈ R1, lt z x = true) ∧ (∀ z, R2[0]? = some z -> lt z x = false) ∧
      loopO g8 (.h2 a b (O1.length : Int) (P.length : Int) (O1 ++ O2)) = loopO g8 (.h0 a b ((P.length + 1 : Nat) : Int) (R1 ++ x :: R2)) := by
  have hB : BIG = 1000000000 := rfl
  have hl : (a ++ b).length = P.length + (Q.length + 1) := by rw [hA]; simp
  have g1 : (a ++ b)[0 + P.length]? = some x := by rw [hA]; simp
  have ws : IntKind.i64.wrap ((P.length : Int) + 1) = ((P.length + 1 : Nat) : Int) := wsucc (by omega)
  intro O2
  induction O2 with
  | nil =>
    intro O1 hO hb h1
    refine ⟨O1, [], rfl, h1, by simp, ?_⟩
    simp only [List.append_nil] at *
    refine loopO_inl ?_ rfl
    rw [g8, opt_f (by simp)]
    refine (opt_chk (by rw [brec_len]; omega)).trans ?_
    rw [Int.toNat_natCast, Int.toNat_natCast, opt_chk (by omega), opt_chk (by simp; omega), opt_chk (by omega), opt_get g1, opt_chk (by simp), opt_chk (by simp; omega), opt_chk (by omega), opt_chk (by omega), opt_chk (by simp; omega), opt_chk (by rfl), opt_chk (by rfl), opt_ret, ws]
    simp
  | cons z O2 ih =>
    intro O1 hO hb h1
    have hlen : (O1 ++ z :: O2).length = O1.length + (O2.length + 1) := by simp
    have g2 : (O1 ++ z :: O2)[0 + O1.length]? = some z := by simp
    have hz := f19_eq (hO z (by simp)) hx
    cases hc : lt z x with
    | true =>
      obtain ⟨R1, R2, e1, e2, e3, e4⟩ := ih (O1 ++ [z]) (fun y hy => hO y (by simp [hy])) (by simp at hb ⊢; omega) (by
        intro y hy
        rcases List.mem_append.1 hy with h | h
        · exact h1 y h
        · simp at h; subst h; exact hc)
      refine ⟨R1, R2, by rw [<- e1]; simp, e2, e3, ?_⟩
      rw [<- e4]
      refine loopO_inl ?_ rfl
      rw [g8, opt_t (by simp only [decide_eq_true_eq]; omega), Int.toNat_natCast, Int.toNat_natCast, opt_chk (by omega), opt_get g2, opt_chk (by omega), opt_get g1, opt_t (by rw [hz, hc]), opt_chk (by rfl), opt_ret, wsucc (by omega)]
      simp
    | false =>
      refine ⟨O1, z :: O2, rfl, h1, by simp [hc], ?_⟩
      refine loopO_inl ?_ rfl
      rw [g8, opt_t (by simp only [decide_eq_true_eq]; omega), Int.toNat_natCast, Int.toNat_natCast, opt_chk (by omega), opt_get g2, opt_chk (by omega), opt_get g1, opt_f (by rw [hz, hc])]
      refine (opt_chk (by rw [brec_len]; omega)).trans ?_
      rw [opt_chk (by omega), opt_chk (by simp; omega), opt_chk (by omega), opt_get g1, opt_chk (by simp), opt_chk (by simp; omega), opt_chk (by omega), opt_chk (by omega), opt_chk (by simp; omega), opt_chk (by rfl), opt_chk (by rfl), opt_ret, ws]
      simp
end
end Go.Proofs.Act
/-
  ActMerges.
-/
namespace Go.Proofs.Act
open Go Go.Ab
set_option linter.unusedVariables false
set_option linter.unusedSimpArgs false
set_option maxRecDepth 100000
set_option maxHeartbeats 1000000
def Lp (P R : List Action) (z : Action) : Prop := ok z = true ∧ ∃ P1 P2, P = P1 ++ z :: P2 ∧ ∀ y ∈ P2 ++ R, eqv lt z y = false
theorem Lp.step {P Q : List Action} {x z : Action} : Lp (P ++ [x]) Q z ↔ Lp P (x :: Q) z ∨ (z = x ∧ ok x = true ∧ ∀ y ∈ Q, eqv lt x y = false) := by
  constructor
  · rintro ⟨hz, P1, P2, h1, h2⟩
    rcases Nat.eq_zero_or_pos P2.length with e | e
    · have : P2 = [] := List.length_eq_zero_iff.1 e
      subst this
      obtain ⟨_, h⟩ := List.append_inj' h1 rfl
      cases h
      exact .inr ⟨rfl, hz, by simpa using h2⟩
    · obtain ⟨P2, b, rfl⟩ := cut_last (l := P2) (by intro h; subst h; simp at e)
      have h3 : P ++ [x] = (P1 ++ z :: P2) ++ [b] := by rw [h1]; simp
      obtain ⟨h, h'⟩ := List.append_inj' h3 rfl
      cases h'
      exact .inl ⟨hz, P1, P2, h, fun y hy => h2 y (by simpa using hy)⟩
  · rintro (⟨hz, P1, P2, rfl, h2⟩ | ⟨rfl, hz, h2⟩)
    · exact ⟨hz, P1, P2 ++ [x], by simp, fun y hy => h2 y (by simpa using hy)⟩
    · exact ⟨hz, P, [], rfl, by simpa using h2⟩
theorem Lp.none {A : List Action} {z : Action} : Lp A [] z ↔ Last A z := by
  unfold Lp Last
  simp only [List.append_nil]
theorem doc_loop {a b : List Action} (hn : (a ++ b).length <= BIG) : ∀ (R P out : List Action), a ++ b = P ++ R -> Str out -> out.length <= P.length -> (∀ z, z ∈ out ↔ Lp P R z) ->
    ∃ r, loopO g8 (.h0 a b (P.length : Int) out) = some r ∧ IsMg (a ++ b) r := by
  have hB : BIG = 1000000000 := rfl
  intro R
  induction R with
  | nil =>
    intro P out hA hs hl hm
    rw [List.append_nil] at hA
    refine ⟨out, loopO_inr ?_, hs, fun x => ?_, by rw [hA]; exact hl⟩
    · rw [g8, opt_f (by simp only [decide_eq_false_iff_not]; rw [hA]; omega), opt_chk (by omega), opt_ret]
      simp
    · rw [hm x, hA]; exact Lp.none
  | cons x Q ih =>
    intro P out hA hs hl hm
    have hlen : (a ++ b).length = P.length + (Q.length + 1) := by rw [hA]; simp
    have g1 : (a ++ b)[0 + P.length]? = some x := by rw [hA]; simp
    have wk : IntKind.i64.wrap ((P.length : Int) + 1) = ((P.length + 1 + ([] : List Action).length : Nat) : Int) := by rw [wsucc (by omega)]; rfl
    have hA2 : a ++ b = (P ++ [x]) ++ Q := by rw [hA]; simp
    have hl2 : ((P.length + 1 : Nat) : Int) = (((P ++ [x]).length : Nat) : Int) := by simp
    have first : ∀ res, loopO g8 (.h1 a b ((P.length + 1 + ([] : List Action).length : Nat) : Int) (ok x) (P.length : Int) out) = res -> loopO g8 (.h0 a b (P.length : Int) out) = res := by
      intro res h
      refine loopO_inl ?_ h
      rw [g8, opt_t (by simp only [decide_eq_true_eq]; omega), Int.toNat_natCast, opt_chk (by omega), opt_get g1, opt_chk (by rfl), opt_ret, wk, f17_ok]
    cases hf : (ok x && Q.all fun y => !eqv lt x y) with
    | false =>
      have hno : ¬ (ok x = true ∧ ∀ y ∈ Q, eqv lt x y = false) := by
        rintro ⟨h1, h2⟩
        rw [h1, Bool.true_and] at hf
        have : (Q.all fun y => !eqv lt x y) = true := List.all_eq_true.2 fun y hy => by rw [h2 y hy]; rfl
        rw [this] at hf; cases hf
      obtain ⟨r, k1, k2⟩ := ih (P ++ [x]) out hA2 hs (by simp; omega) (fun z => by
        rw [Lp.step, hm z]
        exact ⟨.inl, fun h => h.elim id fun h => absurd h.2 hno⟩)
      refine ⟨r, first _ (flag_loop hn out _ Q [] (ok x) (by simpa using hA) id ?_), k2⟩
      rw [hf, if_neg (by simp), hl2]
      exact k1
    | true =>
      rw [Bool.and_eq_true] at hf
      obtain ⟨hx, h2⟩ := hf
      have h2 : ∀ y ∈ Q, eqv lt x y = false := fun y hy => by have := List.all_eq_true.1 h2 y hy; simpa using this
      have hok : ∀ z ∈ out, ok z = true := fun z hz => ((hm z).1 hz).1
      have hne : ∀ z ∈ out, eqv lt z x = false := by
        intro z hz
        obtain ⟨_, P1, P2, _, h3⟩ := (hm z).1 hz
        exact h3 x (by simp)
      obtain ⟨R1, R2, e1, e2, e3, e4⟩ := ins_loop hn hA hx out [] hok (by simp; omega) (by simp)
      rw [List.nil_append] at e1 e4
      have hs' : Str (R1 ++ x :: R2) := by
        rw [e1] at hs
        obtain ⟨s1, s2, s3⟩ := List.pairwise_append.1 hs
        have h4 : ∀ z ∈ R2, lt x z = true := by
          intro z hz
          obtain ⟨z0, hz0⟩ := some_at (v := R2) (t := 0) (List.length_pos_of_mem hz)
          have h5 := e3 z0 hz0
          have m0 : z0 ∈ R2 := List.mem_of_getElem? hz0
          have h6 := hne z0 (by rw [e1]; simp [m0])
          have h7 : lt x z0 = true := by
            cases h : lt x z0 with
            | true => rfl
            | false => rw [eqv_iff.2 ⟨h5, h⟩] at h6; cases h6
          obtain ⟨w0, w, rfl⟩ := cut_first (l := R2) (by intro e; subst e; simp at hz)
          have : w0 = z0 := by simpa using hz0
          subst this
          rcases List.mem_cons.1 hz with e | e
          · subst e; exact h7
          · exact ordL.tr _ _ _ h7 ((List.pairwise_cons.1 s2).1 z e)
        refine List.pairwise_append.2 ⟨s1, List.pairwise_cons.2 ⟨h4, s2⟩, fun y hy z hz => ?_⟩
        rcases List.mem_cons.1 hz with e | e
        · subst e; exact e2 y hy
        · exact s3 y hy z e
      have hlo : out.length = R1.length + R2.length := by rw [e1]; simp
      obtain ⟨r, k1, k2⟩ := ih (P ++ [x]) (R1 ++ x :: R2) hA2 hs' (by simp; omega) (fun z => by
        rw [Lp.step, <- hm z, e1]
        simp only [List.mem_append, List.mem_cons]
        constructor
        · rintro (h | h | h)
          · exact .inl (.inl h)
          · exact .inr ⟨h, hx, h2⟩
          · exact .inl (.inr h)
        · rintro ((h | h) | ⟨h, _⟩)
          · exact .inl h
          · exact .inr (.inr h)
          · exact .inr (.inl h))
      refine ⟨r, first _ (flag_loop hn out _ Q [] (ok x) (by simpa using hA) id ?_), k2⟩
      have hall : (Q.all fun y => !eqv lt x y) = true := List.all_eq_true.2 fun y hy => by rw [h2 y hy]; rfl
      rw [hx, hall, if_pos (by rfl)]
      refine Eq.trans e4 ?_
      rw [hl2]
      exact k1
theorem doc_is {a b : List Action} (h : a.length + b.length <= BIG) : ∃ r, f8 a b = some r ∧ IsMg (a ++ b) r := by
  have hB : BIG = 1000000000 := rfl
  obtain ⟨r, k1, k2⟩ := doc_loop (a := a) (b := b) (by simpa using h) (a ++ b) [] [] rfl (by simp [Str]) (by simp) (fun z => by
    constructor
    · intro hz; simp at hz
    · rintro ⟨_, P1, P2, h1, _⟩
      exact absurd h1 (by simp))
  refine ⟨r, ?_, k2⟩
  unfold f8 s8
  refine runO_inl ?_ k1
  have c1 : a.length * 24 <= 140737488355328 ∧ a.length <= 140737488355328 := by omega
  have c2 : a.length = a.length ∧ (a.length + b.length) * 24 <= 140737488355328 ∧ a.length + b.length <= 140737488355328 := by omega
  refine (opt_chk c1).trans ?_
  refine (opt_chk c2).trans ?_
  rw [opt_chk (by rfl)]
  refine (opt_chk (by rfl)).trans ?_
  rfl
theorem merges3 (a b : List Action) : f3 a b = some true := by
  have hB : BIG = 1000000000 := rfl
  unfold f3 u3
  by_cases h1 : 60 < a.length
  · rw [opt_t (by simp only [decide_eq_true_eq]; omega), opt_ret]
  by_cases h2 : 60 < b.length
  · rw [opt_f (by simp only [decide_eq_false_iff_not]; omega), opt_t (by simp only [decide_eq_true_eq]; omega), opt_ret]
  have ea : List.take ([] ++ a).length (List.drop 0 ([] ++ a)) = a := by rw [List.drop_zero, List.take_length, List.nil_append]
  obtain ⟨r, m1, m2⟩ := merge_is (a := a) (b := b) (by omega)
  obtain ⟨r', d1, d2⟩ := doc_is (a := a) (b := b) (by omega)
  have := m2.one d2
  subst this
  have hl := m2.len
  simp only [List.length_append] at hl
  have c1 : (0 : Nat) = 0 ∧ (0 + a.length) * 24 <= 140737488355328 ∧ 0 + a.length <= 140737488355328 := by omega
  rw [opt_f (by simp only [decide_eq_false_iff_not]; omega), opt_f (by simp only [decide_eq_false_iff_not]; omega)]
  refine (opt_chk c1).trans ?_
  rw [opt_chk (by simp), ea, opt_get m1, opt_get d1, opt_get (same_ok (by omega)), opt_t (by rfl), opt_get (same_ok (by omega)), opt_t (by rfl), opt_ret]
theorem law3 {p q : Prop} (a b : List Action) (ha : p) (hb : q) : f3 a b = some true := merges3 a b
end Go.Proofs.Act
