/- A part of a law's proof: CdmPl3. -/
import Derived.Test.YtnaljkdgcooidaaGreatCdmDe
import Derived.Test.YtnaljkdgcooidaaGreatCdmG1
import Derived.Test.YtnaljkdgcooidaaGreatSvPlain
set_option linter.constructorNameAsVariable false
/-
  What both of two cubes ask: the program and the document's answer come to one list, or to nothing.
-/
namespace Go.Proofs.Cdm
open Go Go.Ab
set_option linter.unusedVariables false
set_option linter.unusedSimpArgs false
set_option maxRecDepth 100000

theorem brec_len (l : List Test) : (List.brecOn.go l List.length._f).1 = l.length := by kernel_rfl

def orI (a b : Int) : Int := IntKind.u64.wrap (↑(BitVec.ofInt 64 a ||| BitVec.ofInt 64 b).toNat : Int)
def andI (a b : Int) : Int := IntKind.u64.wrap (↑(BitVec.ofInt 64 a &&& BitVec.ofInt 64 b).toNat : Int)
def xorI (a b : Int) : Int := IntKind.u64.wrap (↑(BitVec.ofInt 64 a ^^^ BitVec.ofInt 64 b).toNat : Int)

def mrg (y x : Test) : Test := ⟨y.Field, orI y.Value x.Value, orI y.Mask x.Mask⟩
def clash (y x : Test) : Bool := !decide (andI (andI (xorI y.Value x.Value) y.Mask) x.Mask = 0)

/-- Where a field's test stands, or would stand. -/
def pos (out : List Test) (f : Int) : Nat := (out.takeWhile fun y => decide (y.Field < f)).length

def Pos (out : List Test) (f : Int) (p : Nat) : Prop := p ≤ out.length ∧ (∀ (j : Nat) (h : j < out.length), j < p → out[j].Field < f) ∧ ∀ (h : p < out.length), ¬ out[p].Field < f

theorem pos_ok (out : List Test) (f : Int) : Pos out f (pos out f) := by
  induction out with
  | nil => exact ⟨Nat.le_refl _, fun j h => by simp at h, fun h => by simp at h⟩
  | cons y out ih =>
    unfold pos
    by_cases hy : y.Field < f
    · rw [List.takeWhile_cons_of_pos (by simpa using hy)]
      obtain ⟨h1, h2, h3⟩ := ih
      refine ⟨by simp only [List.length_cons]; exact Nat.succ_le_succ h1, fun j hj hp => ?_, fun h => ?_⟩
      · cases j with
        | zero => exact hy
        | succ j => exact h2 j (by simpa using hj) (by simpa [pos] using hp)
      · exact h3 (by simpa [pos] using h)
    · rw [List.takeWhile_cons_of_neg (by simpa using hy)]
      exact ⟨Nat.zero_le _, fun j _ hp => by simp at hp, fun h => hy⟩

theorem pos_uniq {out : List Test} {f : Int} {p q : Nat} (hp : Pos out f p) (hq : Pos out f q) : p = q := by
  obtain ⟨p1, p2, p3⟩ := hp
  obtain ⟨q1, q2, q3⟩ := hq
  rcases Nat.lt_trichotomy p q with h | h | h
  · exact absurd (q2 p (by omega) h) (p3 (by omega))
  · exact h
  · exact absurd (p2 q (by omega) h) (q3 (by omega))

/-- One test more, at its place. -/
def put (out : List Test) (x : Test) (p : Nat) : Option (List Test) :=
  match out[p]? with
  | some y => if y.Field = x.Field then (if clash y x then none else some (out.set p (mrg y x))) else some (out.take p ++ ([x] ++ out.drop p))
  | none => some (out.take p ++ ([x] ++ out.drop p))

def meetS : List Test → List Test → Option (List Test)
  | [], out => some out
  | x :: l, out => match put out x (pos out x.Field) with
    | none => none
    | some o => meetS l o

def fin (o : Option (List Test)) : List Test × Bool := match o with | some l => (l, true) | none => ([], false)

theorem meetS_at {l out : List Test} {i p : Nat} (h : i < l.length) (hp : Pos out l[i].Field p) : meetS (l.drop i) out = match put out l[i] p with | none => none | some o => meetS (l.drop (i + 1)) o := by
  rw [dropE h, meetS, pos_uniq (pos_ok out l[i].Field) hp]

theorem put_len {out o : List Test} {x : Test} {p : Nat} (h : put out x p = some o) : o.length ≤ out.length + 1 := by
  unfold put at h
  split at h
  · split at h
    · split at h
      · cases h
      · cases h; simp
    · cases h; simp; omega
  · cases h; simp; omega

/-! ### the document's answer -/

/-- What the document's answer does at a place. -/
theorem ref_at (a b : List Test) (x : Test) (p i : Nat) (out : List Test) (hp : Pos out x.Field p) (hl : out.length ≤ 1000) (hi : i < 1000) :
    (∃ o, put out x p = some o ∧ (g7 (.h1 a b x p i out)).opt = some (.inl (.h0 a b ((i + 1 : Nat) : Int) o))) ∨ (put out x p = none ∧ (g7 (.h1 a b x p i out)).opt = some (.inr ([], false))) := by
  obtain ⟨p1, p2, p3⟩ := hp
  have hins : out.take p ++ ([x] ++ out.drop p) = List.take (p - 0) (List.drop 0 out) ++ List.take 1 (List.drop 0 [x]) ++ List.take (out.length - p) (List.drop (0 + p) out) := by
    have : List.take (out.length - p) (List.drop p out) = List.drop p out := List.take_of_length_le (by simp)
    simp [this]
  by_cases h : p < out.length
  · have hg := nthE h
    have hg0 : out[0 + ((p : Int)).toNat]? = some out[p] := by rw [Nat.zero_add]; exact hg
    have hge : out[p]? = some out[p] := by simp
    by_cases hf : out[p].Field = x.Field
    · by_cases hc : clash out[p] x = true
      · right
        refine ⟨by unfold put; rw [hge]; simp [hf, hc], ?_⟩
        simp only [g7]
        rw [opt_t (by simp; omega), opt_chk (by omega), opt_get hg0, opt_f (by simpa using p3 h), opt_t (by simp; omega), opt_chk (by omega), opt_get hg0, opt_t (by simpa using hf),
          opt_chk (by omega), opt_get hg0, opt_chk (by omega), opt_get hg0]
        exact (opt_t hc).trans opt_ret
      · left
        refine ⟨out.set p (mrg out[p] x), by unfold put; rw [hge]; simp [hf, hc], ?_⟩
        have hs : ∀ (z : Test), (out.set (0 + ((p : Int)).toNat) z)[0 + ((p : Int)).toNat]? = some z := fun z => by
          rw [Nat.zero_add, Int.toNat_natCast, List.getElem?_set_self h]
        simp only [g7]
        rw [opt_t (by simp; omega), opt_chk (by omega), opt_get hg0, opt_f (by simpa using p3 h), opt_t (by simp; omega), opt_chk (by omega), opt_get hg0, opt_t (by simpa using hf),
          opt_chk (by omega), opt_get hg0, opt_chk (by omega), opt_get hg0]
        have hcf : clash out[p] x = false := by simpa using hc
        refine (opt_f hcf).trans ?_
        rw [opt_chk (by omega), opt_get hg0, opt_chk (by omega), opt_get hg0, opt_chk (by omega), opt_get (hs _), opt_chk (by omega), opt_get (hs _), opt_chk trivial, opt_chk (by simp), opt_ret, wsucc (by omega)]
        rw [List.set_set, Nat.zero_add, Int.toNat_natCast]
        rfl
    · left
      refine ⟨out.take p ++ ([x] ++ out.drop p), by unfold put; rw [hge]; simp [hf], ?_⟩
      simp only [g7]
      rw [opt_t (by simp; omega), opt_chk (by omega), opt_get hg0, opt_f (by simpa using p3 h), opt_t (by simp; omega), opt_chk (by omega), opt_get hg0, opt_f (by simpa using hf)]
      rw [brec_len, opt_chk (show (0 : Int) ≤ (p : Int) ∧ (p : Int) ≤ (out.length : Int) from by omega), opt_chk (by simp; omega), opt_chk (by simp; omega), opt_chk (by simp), opt_chk (by simp; omega), opt_chk (by omega), opt_chk (by simp; omega), opt_chk (by simp; omega), opt_chk trivial, opt_chk trivial, opt_ret, wsucc (by omega), hins]
      simp
  · left
    have hpe : p = out.length := by omega
    refine ⟨out.take p ++ ([x] ++ out.drop p), by unfold put; rw [List.getElem?_eq_none (by omega)], ?_⟩
    simp only [g7]
    rw [opt_f (by simp; omega), opt_f (by simp; omega)]
    rw [brec_len, opt_chk (show (0 : Int) ≤ (p : Int) ∧ (p : Int) ≤ (out.length : Int) from by omega), opt_chk (by simp; omega), opt_chk (by simp; omega), opt_chk (by simp), opt_chk (by simp; omega), opt_chk (by omega), opt_chk (by simp; omega), opt_chk (by simp; omega), opt_chk trivial, opt_chk trivial, opt_ret, wsucc (by omega), hins]
    simp

theorem ref_in (a b : List Test) (x : Test) (i : Nat) (out : List Test) (hl : out.length ≤ 1000) (hi : i < 1000) : ∀ (k at_ : Nat), at_ + k = pos out x.Field → loopO g7 (.h1 a b x at_ i out) = loopO g7 (.h1 a b x (pos out x.Field) i out) := by
  intro k
  induction k with
  | zero => intro at_ h; rw [show at_ = pos out x.Field by omega]
  | succ k ih =>
    intro at_ h
    obtain ⟨p1, p2, p3⟩ := pos_ok out x.Field
    have hlt : at_ < out.length := by omega
    have hg0 : out[0 + ((at_ : Int)).toNat]? = some out[at_] := by rw [Nat.zero_add]; exact nthE hlt
    refine loopO_inl (s' := .h1 a b x ((at_ + 1 : Nat) : Int) i out) ?_ (ih (at_ + 1) (by omega))
    simp only [g7]
    rw [opt_t (by simp; omega), opt_chk (by omega), opt_get hg0, opt_t (by simpa using p2 at_ hlt (by omega)), opt_chk trivial, opt_ret, wsucc (by omega)]

theorem ref_out (a b : List Test) (hab : (a ++ b).length ≤ 80) : ∀ (k i : Nat) (out : List Test), i + k = (a ++ b).length → out.length ≤ i → loopO g7 (.h0 a b i out) = some (fin (meetS ((a ++ b).drop i) out)) := by
  intro k
  induction k with
  | zero =>
    intro i out hi ho
    refine loopO_inr ?_
    simp only [g7]
    have hd : (a ++ b).drop i = [] := dropN (by omega)
    rw [opt_f (by simp at hi ⊢; omega), opt_chk (by omega), opt_ret, hd]
    simp [meetS, fin]
  | succ k ih =>
    intro i out hi ho
    have hlt : i < (a ++ b).length := by omega
    have hg0 : (a ++ b)[0 + ((i : Int)).toNat]? = some (a ++ b)[i] := by rw [Nat.zero_add]; exact nthE hlt
    have hstep : (g7 (.h0 a b i out)).opt = some (.inl (.h1 a b (a ++ b)[i] ((0 : Nat) : Int) i out)) := by
      simp only [g7]
      rw [opt_t (by simp at hlt ⊢; omega), opt_chk (by omega), opt_get hg0, opt_chk trivial, opt_ret]; rfl
    rw [loopO_inl hstep rfl, ref_in a b _ i out (by omega) (by omega) _ 0 (Nat.zero_add _), meetS_at hlt (pos_ok out _)]
    rcases ref_at a b (a ++ b)[i] (pos out (a ++ b)[i].Field) i out (pos_ok _ _) (by omega) (by omega) with ⟨o, h1, h2⟩ | ⟨h1, h2⟩
    · rw [loopO_inl h2 rfl, h1]
      exact ih (i + 1) o (by omega) (by have := put_len h1; omega)
    · rw [loopO_inr h2, h1]; rfl

theorem f7_eq (a b : List Test) (ha : a.length ≤ 40) (hb : b.length ≤ 40) : f7 a b = some (fin (meetS (a ++ b) [])) := by
  refine runO_inl (s' := .h0 a b ((0 : Nat) : Int) []) ?_ (ref_out a b (by simp; omega) _ 0 [] (Nat.zero_add _) (by simp))
  simp only [s7]
  rw [opt_chk (by refine ⟨?_, ?_⟩ <;> omega), opt_chk (by refine ⟨trivial, ?_, ?_⟩ <;> omega), opt_chk trivial, opt_chk (by rfl), opt_ret]
  rfl

end Go.Proofs.Cdm

/-
  What both of two cubes ask: the program.
-/
namespace Go.Proofs.Cdm
open Go Go.Ab
set_option linter.unusedVariables false
set_option linter.unusedSimpArgs false
set_option maxRecDepth 100000

/-! ### all tests in one row -/

theorem cat_sum (a : List (List Test)) (n : Nat) (ha : a.length ≤ 1000) (hn : (a.flatten).length = n) (hn2 : n ≤ 100000) : ∀ (k i : Nat), i + k = a.length →
    loopO g12 (.h0 a i (((a.take i).flatten.length : Nat) : Int)) = loopO g12 (.h0 a a.length (n : Int)) := by
  intro k
  induction k with
  | zero =>
    intro i h
    have : i = a.length := by omega
    subst this
    rw [List.take_length, hn]
  | succ k ih =>
    intro i h
    have hi : i < a.length := by omega
    have e : (a.take (i + 1)).flatten.length = (a.take i).flatten.length + a[i].length := by
      rw [List.take_succ_eq_append_getElem hi, List.flatten_append, List.flatten_cons, List.flatten_nil, List.append_nil, List.length_append]
    have hle : (a.take (i + 1)).flatten.length ≤ n := by
      rw [← hn]
      conv => rhs; rw [← List.take_append_drop (i + 1) a]
      rw [List.flatten_append, List.length_append]; omega
    refine loopO_inl (s' := .h0 a ((i + 1 : Nat) : Int) (((a.take (i + 1)).flatten.length : Nat) : Int)) ?_ (ih (i + 1) (by omega))
    have hw : IntKind.i64.wrap ((((a.take i).flatten.length : Nat) : Int) + ((a[i].length : Nat) : Int)) = (((a.take (i + 1)).flatten.length : Nat) : Int) := by
      rw [w64 (by omega) (by omega)]; omega
    simp only [g12]
    rw [opt_t (by simp; omega), opt_chk (by omega), opt_get (nthE hi), hw, opt_f (by simp), opt_ret, wsucc (by omega)]

theorem cat_app (a : List (List Test)) (ha : a.length ≤ 1000) (hn2 : (a.flatten).length ≤ 100000) : ∀ (k i : Nat), i + k = a.length → loopO g12 (.h1 a i (a.take i).flatten) = some a.flatten := by
  intro k
  induction k with
  | zero =>
    intro i h
    have : i = a.length := by omega
    subst this
    refine loopO_inr ?_
    simp only [g12]
    rw [opt_f (by simp), opt_chk (by omega), opt_ret, List.drop_zero, List.take_length, List.take_length]
  | succ k ih =>
    intro i h
    have hi : i < a.length := by omega
    have e : (a.take (i + 1)).flatten = (a.take i).flatten ++ a[i] := by
      rw [List.take_succ_eq_append_getElem hi, List.flatten_append, List.flatten_cons, List.flatten_nil, List.append_nil]
    have hle : (a.take (i + 1)).flatten.length ≤ a.flatten.length := by
      conv => rhs; rw [← List.take_append_drop (i + 1) a]
      rw [List.flatten_append, List.length_append]; omega
    rw [e, List.length_append] at hle
    refine loopO_inl (s' := .h1 a ((i + 1 : Nat) : Int) (a.take (i + 1)).flatten) ?_ (ih (i + 1) (by omega))
    simp only [g12]
    rw [opt_t (by simp; omega), opt_chk (by omega), opt_get (nthE hi), opt_chk (by refine ⟨trivial, ?_, ?_⟩ <;> omega), opt_chk trivial, opt_ret, wsucc (by omega), e]

theorem f12_eq (a : List (List Test)) (ha : a.length ≤ 1000) (hn2 : (a.flatten).length ≤ 100000) : f12 a = some a.flatten := by
  refine runO_inl (s' := .h0 a ((0 : Nat) : Int) ((((a.take 0).flatten.length : Nat)) : Int)) rfl ?_
  rw [cat_sum a _ ha rfl hn2 a.length 0 (by omega)]
  refine loopO_inl (s' := .h1 a ((0 : Nat) : Int) (a.take 0).flatten) ?_ (cat_app a ha hn2 a.length 0 (by omega))
  simp only [g12]
  rw [opt_f (by simp), opt_chk (by refine ⟨?_, ?_, ?_⟩ <;> omega), opt_chk (by rfl), opt_ret]
  simp

/-! ### where a test stands -/

def Sorted (out : List Test) : Prop := ∀ (i j : Nat) (hi : i < out.length) (hj : j < out.length), i < j → out[i].Field < out[j].Field

theorem cmp_lt (y : Test) (f : Int) : (f14 y f < 0) = (y.Field < f) := by
  unfold f14 u14 f15 u15 f23 u23
  simp only [tot_ite, tot_ret]
  by_cases h1 : y.Field < f
  · simp [h1]
  · by_cases h2 : f < y.Field
    · simp [h1, h2]
    · simp [h1, h2]

theorem cmp_eq (y : Test) (f : Int) : (f14 y f = 0) = (y.Field = f) := by
  unfold f14 u14 f15 u15 f23 u23
  simp only [tot_ite, tot_ret]
  by_cases h1 : y.Field < f
  · simp [h1]; omega
  · by_cases h2 : f < y.Field
    · simp [h1, h2]; omega
    · have : y.Field = f := by omega
      simp [this]

theorem mid_eq (a b : Nat) (h : a + b < 1000000) : IntKind.i64.wrap ((IntKind.u64.wrap (IntKind.i64.wrap ((a : Int) + (b : Int)))).fdiv ((2 : Int) ^ (1 : Nat))) = (((a + b) / 2 : Nat) : Int) := by
  rw [w64 (x := (a : Int) + b) (by omega) (by omega), wu64 (x := (a : Int) + b) (by omega) (by omega), fdivp, w64 (by omega) (by omega)]
  omega

/-- The search, whatever is left of it. -/
theorem search (l : List Test) (x : Test) (i : Nat) (out : List Test) (hs : Sorted out) (hl : out.length ≤ 1000) : ∀ (k lo hi : Nat), lo + k = hi → hi ≤ out.length → lo ≤ pos out x.Field → pos out x.Field ≤ hi →
    loopO g6 (.h1 l x lo hi i out.length out) = loopO g6 (.h1 l x (pos out x.Field) (pos out x.Field) i out.length out) := by
  intro k
  induction k using Nat.strongRecOn with
  | _ k ih =>
    intro lo hi hk hh h1 h2
    obtain ⟨p1, p2, p3⟩ := pos_ok out x.Field
    by_cases h0 : k = 0
    · have e1 : lo = pos out x.Field := by omega
      have e2 : hi = pos out x.Field := by omega
      rw [e1, e2]
    · have hm : (lo + hi) / 2 < out.length := by omega
      have hg0 : out[0 + ((((lo + hi) / 2 : Nat) : Int)).toNat]? = some out[(lo + hi) / 2] := by rw [Nat.zero_add]; exact nthE hm
      by_cases hc : out[(lo + hi) / 2].Field < x.Field
      · -- behind the middle
        have hp : (lo + hi) / 2 < pos out x.Field := by
          rcases Nat.lt_or_ge ((lo + hi) / 2) (pos out x.Field) with h | h
          · exact h
          · exfalso
            have hpl : pos out x.Field < out.length := by omega
            rcases Nat.lt_or_eq_of_le h with h' | h'
            · have := hs _ _ hpl hm h'
              exact p3 hpl (by omega)
            · exact p3 hpl (by simpa [h'] using hc)
        refine loopO_inl (s' := .h1 l x (((lo + hi) / 2 + 1 : Nat) : Int) hi i out.length out) ?_ (ih (hi - ((lo + hi) / 2 + 1)) (by omega) _ hi (by omega) hh (by omega) h2)
        simp only [g6]
        rw [opt_t (by simp; omega), opt_chk (by omega)]
        rw [mid_eq lo hi (by omega), opt_chk (by omega), opt_get hg0, opt_t (by simp only [cmp_lt, decide_eq_true_eq]; exact hc), opt_ret, wsucc (by omega)]
      · have hp : pos out x.Field ≤ (lo + hi) / 2 := by
          rcases Nat.lt_or_ge ((lo + hi) / 2) (pos out x.Field) with h | h
          · exact absurd (p2 _ hm h) hc
          · exact h
        refine loopO_inl (s' := .h1 l x lo (((lo + hi) / 2 : Nat) : Int) i out.length out) ?_ (ih ((lo + hi) / 2 - lo) (by omega) lo _ (by omega) (by omega) h1 hp)
        simp only [g6]
        rw [opt_t (by simp; omega), opt_chk (by omega)]
        rw [mid_eq lo hi (by omega), opt_chk (by omega), opt_get hg0, opt_f (by simp only [cmp_lt, decide_eq_false_iff_not]; exact hc), opt_ret]

/-- What the program does at a place. -/
theorem prog_at (l : List Test) (x : Test) (p i : Nat) (out : List Test) (hp : Pos out x.Field p) (hl : out.length ≤ 1000) (hi : i < 1000) :
    (∃ o, put out x p = some o ∧ (g6 (.h1 l x p p i out.length out)).opt = some (.inl (.h0 l ((i + 1 : Nat) : Int) o))) ∨ (put out x p = none ∧ (g6 (.h1 l x p p i out.length out)).opt = some (.inr ([], false))) := by
  obtain ⟨p1, p2, p3⟩ := hp
  by_cases h : p < out.length
  · have hg0 : out[0 + ((p : Int)).toNat]? = some out[p] := by rw [Nat.zero_add]; exact nthE h
    have hge : out[p]? = some out[p] := by simp
    by_cases hf : out[p].Field = x.Field
    · by_cases hc : clash out[p] x = true
      · right
        refine ⟨by unfold put; rw [hge]; simp [hf, hc], ?_⟩
        simp only [g6]
        rw [opt_f (by simp), opt_t (by simp; omega), opt_chk (by omega), opt_get hg0, opt_f (by simp only [cmp_eq, hf]; simp), opt_chk (by omega), opt_get hg0, opt_chk (by omega), opt_get hg0]
        exact (opt_t hc).trans opt_ret
      · left
        refine ⟨out.set p (mrg out[p] x), by unfold put; rw [hge]; simp [hf, hc], ?_⟩
        have hs : ∀ (z : Test), (out.set (0 + ((p : Int)).toNat) z)[0 + ((p : Int)).toNat]? = some z := fun z => by
          rw [Nat.zero_add, Int.toNat_natCast, List.getElem?_set_self h]
        have hcf : clash out[p] x = false := by simpa using hc
        simp only [g6]
        rw [opt_f (by simp), opt_t (by simp; omega), opt_chk (by omega), opt_get hg0, opt_f (by simp only [cmp_eq, hf]; simp), opt_chk (by omega), opt_get hg0, opt_chk (by omega), opt_get hg0]
        refine (opt_f hcf).trans ?_
        rw [opt_chk (by omega), opt_get hg0, opt_chk (by omega), opt_get hg0, opt_chk (by omega), opt_get (hs _), opt_chk (by omega), opt_get (hs _), opt_chk (by simp), opt_ret, wsucc (by omega)]
        rw [List.set_set, Nat.zero_add, Int.toNat_natCast]
        rfl
    · left
      refine ⟨out.take p ++ ([x] ++ out.drop p), by unfold put; rw [hge]; simp [hf], ?_⟩
      simp only [g6]
      rw [opt_f (by simp), opt_t (by simp; omega), opt_chk (by omega), opt_get hg0, opt_t (by simp only [cmp_eq]; simpa using hf), opt_chk (by simp; omega), opt_chk trivial, opt_ret, wsucc (by omega)]
      simp
  · left
    refine ⟨out.take p ++ ([x] ++ out.drop p), by unfold put; rw [List.getElem?_eq_none (by omega)], ?_⟩
    simp only [g6]
    rw [opt_f (by simp), opt_f (by simp; omega), opt_chk (by simp; omega), opt_chk trivial, opt_ret, wsucc (by omega)]
    simp

theorem put_sorted {out o : List Test} {x : Test} (hs : Sorted out) (h : put out x (pos out x.Field) = some o) : Sorted o := by
  obtain ⟨p1, p2, p3⟩ := pos_ok out x.Field
  generalize pos out x.Field = p at *
  have merged : ∀ (y : Test) (hp : p < out.length), y.Field = out[p].Field → Sorted (out.set p y) := by
    intro y hp hy i j hi hj hij
    rw [List.length_set] at hi hj
    have e : ∀ (k : Nat) (hk : k < out.length), ((out.set p y)[k]'(by rw [List.length_set]; exact hk)).Field = out[k].Field := by
      intro k hk
      by_cases hkp : p = k
      · subst hkp; rw [List.getElem_set_self]; exact hy
      · rw [List.getElem_set_ne hkp]
    rw [e i hi, e j hj]
    exact hs i j hi hj hij
  have inserted : (∀ (hp : p < out.length), x.Field < out[p].Field) → Sorted (out.take p ++ ([x] ++ out.drop p)) := by
    intro hx i j hi hj hij
    have len : (out.take p).length = p := by rw [List.length_take]; omega
    have low : ∀ (k : Nat) (hk : k < p), (out.take p ++ ([x] ++ out.drop p))[k]? = out[k]? := by
      intro k hk
      rw [List.getElem?_append_left (by omega), List.getElem?_take_of_lt hk]
    have mid : (out.take p ++ ([x] ++ out.drop p))[p]? = some x := by
      rw [List.getElem?_append_right (by omega), len, Nat.sub_self]; rfl
    have high : ∀ (k : Nat) (hk : p < k), (out.take p ++ ([x] ++ out.drop p))[k]? = out[k - 1]? := by
      intro k hk
      rw [List.getElem?_append_right (by omega), len, List.getElem?_append_right (by simp; omega), List.getElem?_drop]
      congr 1; simp; omega
    have hlen : (out.take p ++ ([x] ++ out.drop p)).length = out.length + 1 := by simp; omega
    have fe : ∀ (k : Nat) (hk : k < (out.take p ++ ([x] ++ out.drop p)).length) (z : Test), (out.take p ++ ([x] ++ out.drop p))[k]? = some z → (out.take p ++ ([x] ++ out.drop p))[k] = z := by
      intro k hk z hz
      rw [List.getElem?_eq_getElem hk] at hz
      exact Option.some.inj hz
    rw [hlen] at hi hj
    have ltp : ∀ (k : Nat) (hk : k < out.length), p ≤ k → x.Field < out[k].Field := by
      intro k hk hpk
      rcases Nat.lt_or_eq_of_le hpk with h | h
      · have := hs p k (by omega) hk h
        have := hx (by omega)
        omega
      · subst h; exact hx hk
    rcases Nat.lt_trichotomy i p with h1 | h1 | h1
    · have ei : (out.take p ++ ([x] ++ out.drop p))[i] = out[i] := fe i _ _ (by rw [low i h1]; simp)
      rcases Nat.lt_trichotomy j p with h2 | h2 | h2
      · have ej : (out.take p ++ ([x] ++ out.drop p))[j] = out[j] := fe j _ _ (by rw [low j h2]; simp)
        rw [ei, ej]; exact hs i j _ _ hij
      · subst h2
        have ej : (out.take j ++ ([x] ++ out.drop j))[j] = x := fe j _ _ mid
        rw [ei, ej]; exact p2 i (by omega) h1
      · have ej : (out.take p ++ ([x] ++ out.drop p))[j] = out[j - 1] := fe j _ _ (by rw [high j h2]; simp)
        rw [ei, ej]; exact hs i (j - 1) _ _ (by omega)
    · subst h1
      have ei : (out.take i ++ ([x] ++ out.drop i))[i] = x := fe i _ _ mid
      have ej : (out.take i ++ ([x] ++ out.drop i))[j] = out[j - 1] := fe j _ _ (by rw [high j hij]; simp)
      rw [ei, ej]; exact ltp (j - 1) (by omega) (by omega)
    · have ei : (out.take p ++ ([x] ++ out.drop p))[i] = out[i - 1] := fe i _ _ (by rw [high i h1]; simp)
      have ej : (out.take p ++ ([x] ++ out.drop p))[j] = out[j - 1] := fe j _ _ (by rw [high j (by omega)]; simp)
      rw [ei, ej]; exact hs (i - 1) (j - 1) _ _ (by omega)
  unfold put at h
  split at h
  · rename_i y hy
    obtain ⟨hp, rfl⟩ := List.getElem?_eq_some_iff.1 hy
    split at h
    · rename_i hf
      split at h
      · cases h
      · cases h; exact merged _ hp rfl
    · rename_i hf
      cases h
      exact inserted fun _ => by have := p3 hp; omega
  · rename_i hy
    cases h
    refine inserted fun hp => ?_
    rw [List.getElem?_eq_getElem hp] at hy; cases hy

theorem prog_out (l : List Test) (hl : l.length ≤ 80) : ∀ (k i : Nat) (out : List Test), i + k = l.length → out.length ≤ i → Sorted out → loopO g6 (.h0 l i out) = some (fin (meetS (l.drop i) out)) := by
  intro k
  induction k with
  | zero =>
    intro i out hi ho hs
    refine loopO_inr ?_
    have hd : l.drop i = [] := dropN (by omega)
    simp only [g6]
    rw [opt_f (by simp; omega), opt_chk (by omega), opt_ret, hd]
    simp [meetS, fin]
  | succ k ih =>
    intro i out hi ho hs
    have hlt : i < l.length := by omega
    have hstep : (g6 (.h0 l i out)).opt = some (.inl (.h1 l l[i] ((0 : Nat) : Int) out.length i out.length out)) := by
      simp only [g6]
      rw [opt_t (by simp; omega), opt_chk (by omega), opt_get (nthE hlt), opt_ret]; rfl
    rw [loopO_inl hstep rfl, search l l[i] i out hs (by omega) out.length 0 out.length (by omega) (Nat.le_refl _) (Nat.zero_le _) (pos_ok out _).1, meetS_at hlt (pos_ok out _)]
    rcases prog_at l l[i] (pos out l[i].Field) i out (pos_ok _ _) (by omega) (by omega) with ⟨o, h1, h2⟩ | ⟨h1, h2⟩
    · rw [loopO_inl h2 rfl, h1]
      exact ih (i + 1) o (by omega) (by have := put_len h1; omega) (put_sorted hs h1)
    · rw [loopO_inr h2, h1]; rfl

theorem sorted_nil : Sorted [] := fun i j hi => by simp at hi

theorem f6_eq (a b : List Test) (ha : a.length ≤ 40) (hb : b.length ≤ 40) : f6 a b = some (fin (meetS (a ++ b) [])) := by
  have hf : List.flatten [a, b] = a ++ b := by simp
  refine runO_inl (s' := .h0 (a ++ b) ((0 : Nat) : Int) []) ?_ (prog_out (a ++ b) (by simp; omega) _ 0 [] (Nat.zero_add _) (by simp) sorted_nil)
  simp only [s6]
  rw [opt_chk (by exact Nat.le_refl 2), opt_get (f12_eq _ (by simp) (by simp; omega)), opt_chk (by rfl), opt_ret]
  simp

theorem same_self (l : List Test) (hl : l.length ≤ 1000000) : f8 l l = some true := by
  have h : ∀ (k i : Nat), i + k = l.length → loopO g8 (.h0 l l i) = some true := by
    intro k
    induction k with
    | zero =>
      intro i hi
      refine loopO_inr ?_
      simp only [g8]
      rw [opt_f (by simp; omega), opt_ret]
    | succ k ih =>
      intro i hi
      have hi' : i < l.length := by omega
      refine loopO_inl (s' := .h0 l l ((i + 1 : Nat) : Int)) ?_ (ih (i + 1) (by omega))
      simp only [g8]
      rw [opt_t (by simp; omega), opt_chk (by omega), opt_get (nthE hi'), opt_chk (by omega), opt_get (nthE hi'), opt_f (by simp), opt_ret, wsucc (by omega)]
  refine runO_inl (s' := .h0 l l ((0 : Nat) : Int)) ?_ (h l.length 0 (by omega))
  simp only [s8]
  rw [opt_f (by simp), opt_ret]
  rfl

theorem meet_len : ∀ (l out o : List Test), meetS l out = some o → o.length ≤ out.length + l.length := by
  intro l
  induction l with
  | nil => intro out o h; cases h; simp
  | cons x l ih =>
    intro out o h
    unfold meetS at h
    split at h
    · cases h
    · rename_i o1 h1
      have := put_len h1
      have := ih _ _ h
      simp; omega

theorem fin_len (a b : List Test) (ha : a.length ≤ 40) (hb : b.length ≤ 40) : (fin (meetS (a ++ b) [])).1.length ≤ 80 := by
  cases h : meetS (a ++ b) [] with
  | none => simp [fin]
  | some o =>
    have := meet_len _ _ _ h
    simp at this
    simp only [fin]; omega

/-- CodeMeets. -/
theorem meets (a b : List Test) : f3 a b = some true := by
  unfold f3 u3
  by_cases ha : 40 < a.length
  · rw [opt_t (by simp; omega), opt_ret]
  by_cases hb : 40 < b.length
  · rw [opt_f (by simp; omega), opt_t (by simp; omega), opt_ret]
  have hl := fin_len a b (by omega) (by omega)
  rw [opt_f (by simp; omega), opt_f (by simp; omega), opt_get (f6_eq a b (by omega) (by omega)), opt_get (f7_eq a b (by omega) (by omega)), opt_get (same_self _ (by omega)), opt_t rfl, opt_t (by simp), opt_ret]

theorem law3 (a b : List Test) (ha : wf_24 a) (hb : wf_24 b) : f3 a b = some true := meets a b

end Go.Proofs.Cdm

/-
  What both of two cubes ask takes a packet just if both do.
-/
namespace Go.Proofs.Cdm
open Go Go.Ab
set_option linter.unusedVariables false
set_option linter.unusedSimpArgs false
set_option maxRecDepth 100000

/-! ### bits -/

theorem bits1 : ∀ a b m n v : Bool, (a && m) = a → (b && n) = b → (((a ^^ b) && m) && n) = false → ((v && (m || n)) = (a || b) ↔ ((v && m) = a ∧ (v && n) = b)) := by decide
theorem bits2 : ∀ a b m n v : Bool, (a && m) = a → (b && n) = b → (v && m) = a → (v && n) = b → (((a ^^ b) && m) && n) = false := by decide
theorem bits3 : ∀ a b m n : Bool, (a && m) = a → (b && n) = b → ((a || b) && (m || n)) = (a || b) := by decide

theorem bv_ext {x y : BitVec 64} : x = y ↔ ∀ i, x.getLsbD i = y.getLsbD i := by
  constructor
  · rintro rfl i; rfl
  · intro h; exact BitVec.eq_of_getLsbD_eq fun i _ => h i

theorem bv_both (a b m n v : BitVec 64) (ha : a &&& m = a) (hb : b &&& n = b) (hc : (a ^^^ b) &&& m &&& n = 0) : v &&& (m ||| n) = a ||| b ↔ v &&& m = a ∧ v &&& n = b := by
  have e : ∀ i, (v.getLsbD i && (m.getLsbD i || n.getLsbD i)) = (a.getLsbD i || b.getLsbD i) ↔ (v.getLsbD i && m.getLsbD i) = a.getLsbD i ∧ (v.getLsbD i && n.getLsbD i) = b.getLsbD i := by
    intro i
    have h1 := bv_ext.1 ha i
    have h2 := bv_ext.1 hb i
    have h3 := bv_ext.1 hc i
    have hz : (0 : BitVec 64).getLsbD i = false := by show (0#64).getLsbD i = false; exact BitVec.getLsbD_zero
    rw [hz] at h3
    simp only [BitVec.getLsbD_and, BitVec.getLsbD_xor] at h1 h2 h3
    exact bits1 _ _ _ _ _ h1 h2 h3
  simp only [bv_ext, BitVec.getLsbD_and, BitVec.getLsbD_or]
  constructor
  · intro h; exact ⟨fun i => ((e i).1 (h i)).1, fun i => ((e i).1 (h i)).2⟩
  · rintro ⟨h1, h2⟩ i; exact (e i).2 ⟨h1 i, h2 i⟩

theorem bv_clash (a b m n v : BitVec 64) (ha : a &&& m = a) (hb : b &&& n = b) (h1 : v &&& m = a) (h2 : v &&& n = b) : (a ^^^ b) &&& m &&& n = 0 := by
  refine bv_ext.2 fun i => ?_
  have k1 := bv_ext.1 ha i
  have k2 := bv_ext.1 hb i
  have k3 := bv_ext.1 h1 i
  have k4 := bv_ext.1 h2 i
  have hz : (0 : BitVec 64).getLsbD i = false := by show (0#64).getLsbD i = false; exact BitVec.getLsbD_zero
  rw [hz]
  simp only [BitVec.getLsbD_and, BitVec.getLsbD_xor] at k1 k2 k3 k4 ⊢
  exact bits2 _ _ _ _ _ k1 k2 k3 k4

theorem bv_ok (a b m n : BitVec 64) (ha : a &&& m = a) (hb : b &&& n = b) : (a ||| b) &&& (m ||| n) = a ||| b := by
  refine bv_ext.2 fun i => ?_
  have k1 := bv_ext.1 ha i
  have k2 := bv_ext.1 hb i
  simp only [BitVec.getLsbD_and, BitVec.getLsbD_or] at k1 k2 ⊢
  exact bits3 _ _ _ _ k1 k2

def U (c : Int) : Prop := 0 ≤ c ∧ c < 18446744073709551616
abbrev bv (c : Int) : BitVec 64 := BitVec.ofInt 64 c

theorem wrap_bv (x : BitVec 64) : IntKind.u64.wrap (x.toNat : Int) = (x.toNat : Int) := by
  have := x.isLt
  exact wu64 (by omega) (by omega)
theorem bv_nat (x : BitVec 64) : bv (x.toNat : Int) = x := by
  unfold bv; rw [BitVec.ofInt_natCast, BitVec.ofNat_toNat]; simp
theorem nat_bv {c : Int} (h : U c) : ((bv c).toNat : Int) = c := by
  obtain ⟨n, rfl⟩ := Int.eq_ofNat_of_zero_le h.1
  have := h.2
  unfold bv
  rw [BitVec.ofInt_natCast, BitVec.toNat_ofNat, Nat.mod_eq_of_lt (by omega)]

theorem and_iff {a b c : Int} (hc : U c) : andI a b = c ↔ bv a &&& bv b = bv c := by
  unfold andI
  rw [wrap_bv]
  constructor
  · intro h
    have := congrArg bv h
    rwa [bv_nat] at this
  · intro h
    rw [← nat_bv hc, ← h]
theorem bv_and (a b : Int) : bv (andI a b) = bv a &&& bv b := by unfold andI; rw [wrap_bv, bv_nat]
theorem bv_or (a b : Int) : bv (orI a b) = bv a ||| bv b := by unfold orI; rw [wrap_bv, bv_nat]
theorem bv_xor (a b : Int) : bv (xorI a b) = bv a ^^^ bv b := by unfold xorI; rw [wrap_bv, bv_nat]
theorem U_or (a b : Int) : U (orI a b) := by
  unfold orI; rw [wrap_bv]
  have := (bv a ||| bv b).isLt
  exact ⟨by omega, by omega⟩

/-! ### tests -/

def WT (y : Test) : Prop := U y.Value ∧ U y.Mask
def okT (y : Test) : Prop := 0 ≤ y.Field ∧ y.Field ≤ 9 ∧ andI y.Value y.Mask = y.Value
def hit (v : List Int) (y : Test) : Prop := andI (v[y.Field.toNat]?.getD 0) y.Mask = y.Value

theorem clash_iff (y x : Test) : clash y x = true ↔ ¬ (bv y.Value ^^^ bv x.Value) &&& bv y.Mask &&& bv x.Mask = 0 := by
  unfold clash
  have : andI (andI (xorI y.Value x.Value) y.Mask) x.Mask = 0 ↔ (bv y.Value ^^^ bv x.Value) &&& bv y.Mask &&& bv x.Mask = 0 := by
    rw [and_iff (show U 0 from ⟨by omega, by omega⟩), bv_and, bv_xor]
    have : bv 0 = 0 := rfl
    rw [this]
  simp [this]

theorem okT_bv {y : Test} (hw : WT y) (h : okT y) : bv y.Value &&& bv y.Mask = bv y.Value := (and_iff hw.1).1 h.2.2

theorem mrg_ok {y x : Test} (hy : WT y) (hx : WT x) (oy : okT y) (ox : okT x) : WT (mrg y x) ∧ okT (mrg y x) := by
  refine ⟨⟨U_or _ _, U_or _ _⟩, oy.1, oy.2.1, ?_⟩
  show andI (orI y.Value x.Value) (orI y.Mask x.Mask) = orI y.Value x.Value
  rw [and_iff (U_or _ _), bv_or, bv_or]
  exact bv_ok _ _ _ _ (okT_bv hy oy) (okT_bv hx ox)

theorem mrg_hit {v : List Int} {y x : Test} (hf : y.Field = x.Field) (hy : WT y) (hx : WT x) (oy : okT y) (ox : okT x) (hc : clash y x = false) : hit v (mrg y x) ↔ hit v y ∧ hit v x := by
  have hc' : (bv y.Value ^^^ bv x.Value) &&& bv y.Mask &&& bv x.Mask = 0 := by
    rcases Decidable.em ((bv y.Value ^^^ bv x.Value) &&& bv y.Mask &&& bv x.Mask = 0) with h | h
    · exact h
    · rw [(clash_iff y x).2 h] at hc; cases hc
  unfold hit
  show andI (v[y.Field.toNat]?.getD 0) (orI y.Mask x.Mask) = orI y.Value x.Value ↔ _
  rw [and_iff (U_or _ _), bv_or, bv_or, and_iff hy.1, and_iff hx.1, ← hf]
  exact bv_both _ _ _ _ _ (okT_bv hy oy) (okT_bv hx ox) hc'

theorem clash_hit {v : List Int} {y x : Test} (hf : y.Field = x.Field) (hy : WT y) (hx : WT x) (oy : okT y) (ox : okT x) (hc : clash y x = true) : ¬ (hit v y ∧ hit v x) := by
  rintro ⟨h1, h2⟩
  unfold hit at h1 h2
  rw [and_iff hy.1] at h1
  rw [and_iff hx.1, ← hf] at h2
  exact (clash_iff y x).1 hc (bv_clash _ _ _ _ _ (okT_bv hy oy) (okT_bv hx ox) h1 h2)

/-! ### lists of tests -/

def All (p : Test → Prop) (l : List Test) : Prop := ∀ y ∈ l, p y

theorem all_app {p : Test → Prop} {a b : List Test} : All p (a ++ b) ↔ All p a ∧ All p b := by
  unfold All; simp only [List.mem_append]
  exact ⟨fun h => ⟨fun y hy => h y (.inl hy), fun y hy => h y (.inr hy)⟩, fun h y hy => hy.elim (h.1 y) (h.2 y)⟩
theorem all_one {p : Test → Prop} {x : Test} : All p [x] ↔ p x := by unfold All; simp
theorem all_cons {p : Test → Prop} {x : Test} {l : List Test} : All p (x :: l) ↔ p x ∧ All p l := by unfold All; simp

theorem all_split {p : Test → Prop} (l : List Test) (k : Nat) : All p l ↔ All p (l.take k) ∧ All p (l.drop k) := by
  rw [← all_app, List.take_append_drop]

theorem put_all {p : Test → Prop} {out o : List Test} {x : Test} {k : Nat} (h : put out x k = some o) (hm : ∀ y ∈ out, y.Field = x.Field → clash y x = false → (p (mrg y x) ↔ p y ∧ p x)) : All p o ↔ All p out ∧ p x := by
  have ins : All p (out.take k ++ ([x] ++ out.drop k)) ↔ All p out ∧ p x := by
    rw [all_app, all_app, all_one, all_split out k]
    exact ⟨fun ⟨h1, h2, h3⟩ => ⟨⟨h1, h3⟩, h2⟩, fun ⟨⟨h1, h3⟩, h2⟩ => ⟨h1, h2, h3⟩⟩
  unfold put at h
  split at h
  · rename_i y hy
    obtain ⟨hk, hy'⟩ := List.getElem?_eq_some_iff.1 hy
    split at h
    · rename_i hf
      split at h
      · cases h
      · rename_i hc
        cases h
        have hmy := hm y (by rw [← hy']; exact List.getElem_mem hk) hf (by simpa using hc)
        have e1 : out.set k (mrg y x) = out.take k ++ (mrg y x :: out.drop (k + 1)) := List.set_eq_take_append_cons_drop.trans (if_pos hk)
        have e2 : All p out ↔ All p (out.take k) ∧ p y ∧ All p (out.drop (k + 1)) := by
          rw [all_split out k, dropE hk, all_cons, hy']
        rw [e1, all_app, all_cons, e2, hmy]
        exact ⟨fun ⟨h1, ⟨h2, h3⟩, h4⟩ => ⟨⟨h1, h2, h4⟩, h3⟩, fun ⟨⟨h1, h2, h4⟩, h3⟩ => ⟨h1, ⟨h2, h3⟩, h4⟩⟩
    · cases h; exact ins
  · cases h; exact ins

def Fine (y : Test) : Prop := WT y ∧ okT y

theorem meet_all {v : List Int} : ∀ (l out : List Test), All Fine l → All Fine out →
    (∀ o, meetS l out = some o → All Fine o ∧ (All (hit v) o ↔ All (hit v) out ∧ All (hit v) l)) ∧ (meetS l out = none → ¬ (All (hit v) out ∧ All (hit v) l)) := by
  intro l
  induction l with
  | nil =>
    intro out hl ho
    refine ⟨fun o h => ?_, fun h => by cases h⟩
    cases h
    have e0 : All (hit v) [] := fun y hy => (by cases hy)
    exact ⟨ho, ⟨fun h => ⟨h, e0⟩, fun h => h.1⟩⟩
  | cons x l ih =>
    intro out hl ho
    obtain ⟨hx, hl⟩ := all_cons.1 hl
    unfold meetS
    cases hp : put out x (pos out x.Field) with
    | none =>
      refine ⟨fun o h => (by cases h), fun _ => ?_⟩
      rintro ⟨h1, h2⟩
      obtain ⟨h2, _⟩ := all_cons.1 h2
      unfold put at hp
      split at hp
      · rename_i y hy
        split at hp
        · rename_i hf
          split at hp
          · rename_i hc
            have hm := List.mem_of_getElem? hy
            exact clash_hit hf (ho y hm).1 hx.1 (ho y hm).2 hx.2 hc ⟨h1 y hm, h2⟩
          · cases hp
        · cases hp
      · cases hp
    | some o1 =>
      have f1 : All Fine o1 := (put_all hp (fun y hy hf hc => ⟨fun _ => ⟨ho y hy, hx⟩, fun _ => mrg_ok (ho y hy).1 hx.1 (ho y hy).2 hx.2⟩)).2 ⟨ho, hx⟩
      have t1 := put_all (p := hit v) hp (fun y hy hf hc => mrg_hit hf (ho y hy).1 hx.1 (ho y hy).2 hx.2 hc)
      obtain ⟨i1, i2⟩ := ih o1 hl f1
      refine ⟨fun o h => ?_, fun h => ?_⟩
      · obtain ⟨j1, j2⟩ := i1 o h
        refine ⟨j1, j2.trans ?_⟩
        rw [t1, all_cons]
        exact ⟨fun ⟨⟨a, b⟩, c⟩ => ⟨a, b, c⟩, fun ⟨a, b, c⟩ => ⟨⟨a, b⟩, c⟩⟩
      · rintro ⟨h1, h2⟩
        obtain ⟨h2, h3⟩ := all_cons.1 h2
        exact i2 h ⟨t1.2 ⟨h1, h2⟩, h3⟩

/-! ### which values tests take -/

theorem takes_loop (l : List Test) (v : List Int) (hv : v.length = 10) (hl : l.length ≤ 1000) : ∀ (k i : Nat) (acc : Int), i + k = l.length → acc = 0 ∨ acc = 1 →
    ∃ r, loopO g9 (.h0 l v i acc) = some r ∧ ((r = -1 ∧ ¬ All okT (l.drop i)) ∨ (All okT (l.drop i) ∧ ((r = 1 ∧ acc = 1 ∧ All (hit v) (l.drop i)) ∨ (r = 0 ∧ (acc = 0 ∨ ¬ All (hit v) (l.drop i)))))) := by
  intro k
  induction k with
  | zero =>
    intro i acc hi ha
    have hd : l.drop i = [] := dropN (by omega)
    refine ⟨acc, loopO_inr ?_, ?_⟩
    · simp only [g9]
      rw [opt_f (by simp; omega), opt_ret]
    · rw [hd]
      refine .inr ⟨fun y hy => (by cases hy), ?_⟩
      rcases ha with rfl | rfl
      · exact .inr ⟨rfl, .inl rfl⟩
      · exact .inl ⟨rfl, rfl, fun y hy => (by cases hy)⟩
  | succ k ih =>
    intro i acc hi ha
    have hlt : i < l.length := by omega
    have hg := nthE hlt
    rw [dropE hlt]
    have bad : ∀ {r : Int}, r = -1 → ¬ okT l[i] → ((r = -1 ∧ ¬ All okT (l[i] :: l.drop (i + 1))) ∨ (All okT (l[i] :: l.drop (i + 1)) ∧ ((r = 1 ∧ acc = 1 ∧ All (hit v) (l[i] :: l.drop (i + 1))) ∨ (r = 0 ∧ (acc = 0 ∨ ¬ All (hit v) (l[i] :: l.drop (i + 1))))))) := fun h hn => .inl ⟨h, fun hh => hn (all_cons.1 hh).1⟩
    by_cases h1 : l[i].Field < 0
    · refine ⟨-1, loopO_inr ?_, bad rfl (fun h => by have := h.1; omega)⟩
      simp only [g9]
      rw [opt_t (by simp; omega), opt_chk (by omega), opt_get hg, opt_t (by simpa using h1), opt_ret]
    by_cases h2 : 9 < l[i].Field
    · refine ⟨-1, loopO_inr ?_, bad rfl (fun h => by have := h.2.1; omega)⟩
      simp only [g9]
      rw [opt_t (by simp; omega), opt_chk (by omega), opt_get hg, opt_f (by simpa using h1), opt_t (by simpa using h2), opt_ret]
    by_cases h3 : andI l[i].Value l[i].Mask = l[i].Value
    · have hok : okT l[i] := ⟨by omega, by omega, h3⟩
      obtain ⟨n, hn⟩ := Int.eq_ofNat_of_zero_le (show 0 ≤ l[i].Field by omega)
      have hnv : n < v.length := by omega
      have hgv : v[l[i].Field.toNat]? = some v[n] := by rw [hn]; simp [hnv]
      have hb : (!decide (IntKind.u64.wrap (↑(BitVec.ofInt (64 : Nat) l[i].Value &&& BitVec.ofInt (64 : Nat) l[i].Mask).toNat : Int) = l[i].Value)) = false := by
        have : IntKind.u64.wrap (↑(BitVec.ofInt (64 : Nat) l[i].Value &&& BitVec.ofInt (64 : Nat) l[i].Mask).toNat : Int) = l[i].Value := h3
        rw [decide_eq_true this]; rfl
      have step : ∀ acc' : Int, ((hit v l[i] ∧ acc' = acc) ∨ (¬ hit v l[i] ∧ acc' = 0)) → (g9 (.h0 l v i acc)).opt = some (.inl (.h0 l v ((i + 1 : Nat) : Int) acc')) := by
        intro acc' hacc
        simp only [g9]
        rw [opt_t (by simp; omega), opt_chk (by omega), opt_get hg, opt_f (by simpa using h1), opt_f (by simpa using h2), opt_chk (by omega), opt_get hg, opt_chk (by omega), opt_get hg, opt_chk (by omega), opt_get hg, opt_f hb,
          opt_chk (by omega), opt_get hgv, opt_chk (by omega), opt_get hg, opt_chk (by omega), opt_get hg]
        rcases hacc with ⟨hh, rfl⟩ | ⟨hh, rfl⟩
        · have hb2 : (!decide (IntKind.u64.wrap (↑(BitVec.ofInt (64 : Nat) v[n] &&& BitVec.ofInt (64 : Nat) l[i].Mask).toNat : Int) = l[i].Value)) = false := by
            have h4 := hh
            unfold hit at h4
            rw [hgv] at h4
            have : IntKind.u64.wrap (↑(BitVec.ofInt (64 : Nat) v[n] &&& BitVec.ofInt (64 : Nat) l[i].Mask).toNat : Int) = l[i].Value := h4
            rw [decide_eq_true this]; rfl
          rw [opt_f hb2, opt_ret, wsucc (by omega)]
        · have hb2 : (!decide (IntKind.u64.wrap (↑(BitVec.ofInt (64 : Nat) v[n] &&& BitVec.ofInt (64 : Nat) l[i].Mask).toNat : Int) = l[i].Value)) = true := by
            have h4 := hh
            unfold hit at h4
            rw [hgv] at h4
            have : ¬ IntKind.u64.wrap (↑(BitVec.ofInt (64 : Nat) v[n] &&& BitVec.ofInt (64 : Nat) l[i].Mask).toNat : Int) = l[i].Value := h4
            rw [decide_eq_false this]; rfl
          rw [opt_t hb2, opt_ret, wsucc (by omega)]
      by_cases hh : hit v l[i]
      · obtain ⟨r, hr, hs⟩ := ih (i + 1) acc (by omega) ha
        refine ⟨r, loopO_inl (step acc (.inl ⟨hh, rfl⟩)) hr, ?_⟩
        rcases hs with ⟨e1, e2⟩ | ⟨e1, e2⟩
        · exact .inl ⟨e1, fun h => e2 (all_cons.1 h).2⟩
        · refine .inr ⟨all_cons.2 ⟨hok, e1⟩, ?_⟩
          rcases e2 with ⟨j1, j2, j3⟩ | ⟨j1, j2⟩
          · exact .inl ⟨j1, j2, all_cons.2 ⟨hh, j3⟩⟩
          · refine .inr ⟨j1, ?_⟩
            rcases j2 with j2 | j2
            · exact .inl j2
            · exact .inr fun h => j2 (all_cons.1 h).2
      · obtain ⟨r, hr, hs⟩ := ih (i + 1) 0 (by omega) (.inl rfl)
        refine ⟨r, loopO_inl (step 0 (.inr ⟨hh, rfl⟩)) hr, ?_⟩
        rcases hs with ⟨e1, e2⟩ | ⟨e1, e2⟩
        · exact .inl ⟨e1, fun h => e2 (all_cons.1 h).2⟩
        · refine .inr ⟨all_cons.2 ⟨hok, e1⟩, ?_⟩
          rcases e2 with ⟨j1, j2, j3⟩ | ⟨j1, j2⟩
          · cases j2
          · exact .inr ⟨j1, .inr fun h => hh (all_cons.1 h).1⟩
    · have hb : (!decide (IntKind.u64.wrap (↑(BitVec.ofInt (64 : Nat) l[i].Value &&& BitVec.ofInt (64 : Nat) l[i].Mask).toNat : Int) = l[i].Value)) = true := by
        have : ¬ IntKind.u64.wrap (↑(BitVec.ofInt (64 : Nat) l[i].Value &&& BitVec.ofInt (64 : Nat) l[i].Mask).toNat : Int) = l[i].Value := h3
        rw [decide_eq_false this]; rfl
      refine ⟨-1, loopO_inr ?_, bad rfl (fun h => h3 h.2.2)⟩
      simp only [g9]
      rw [opt_t (by simp; omega), opt_chk (by omega), opt_get hg, opt_f (by simpa using h1), opt_f (by simpa using h2), opt_chk (by omega), opt_get hg, opt_chk (by omega), opt_get hg, opt_chk (by omega), opt_get hg, opt_t hb, opt_ret]

theorem takes_eq (l : List Test) (v : List Int) (hv : v.length = 10) (hl : l.length ≤ 1000) : ∃ r, f9 l v = some r ∧ ((r = -1 ∧ ¬ All okT l) ∨ (All okT l ∧ ((r = 1 ∧ All (hit v) l) ∨ (r = 0 ∧ ¬ All (hit v) l)))) := by
  obtain ⟨r, hr, hs⟩ := takes_loop l v hv hl l.length 0 1 (by omega) (.inr rfl)
  refine ⟨r, runO_inl (s' := .h0 l v ((0 : Nat) : Int) 1) rfl hr, ?_⟩
  rw [List.drop_zero] at hs
  rcases hs with h | ⟨h1, h2⟩
  · exact .inl h
  · refine .inr ⟨h1, ?_⟩
    rcases h2 with ⟨j1, _, j3⟩ | ⟨j1, j2⟩
    · exact .inl ⟨j1, j3⟩
    · rcases j2 with j2 | j2
      · exact absurd j2 (by omega)
      · exact .inr ⟨j1, j2⟩

/-- CodeBoth. -/
theorem both (a b : List Test) (v : List Int) (wa : All WT a) (wb : All WT b) : f4 a b v = some true := by
  unfold f4 u4
  by_cases ha : 40 < a.length
  · rw [opt_t (by simp; omega), opt_ret]
  by_cases hb : 40 < b.length
  · rw [opt_f (by simp; omega), opt_t (by simp; omega), opt_ret]
  by_cases hv : v.length = 10
  rotate_left
  · rw [opt_f (by simp; omega), opt_f (by simp; omega), opt_t (by simp; omega), opt_ret]
  obtain ⟨p, hp, sp⟩ := takes_eq a v hv (by omega)
  obtain ⟨q, hq, sq⟩ := takes_eq b v hv (by omega)
  rw [opt_f (by simp; omega), opt_f (by simp; omega), opt_f (by simp; omega), opt_get (f6_eq a b (by omega) (by omega)), opt_get hp, opt_get hq]
  rcases sp with ⟨rfl, _⟩ | ⟨oa, sp⟩
  · rw [opt_t (by decide), opt_ret]
  have hp0 : ¬ p < 0 := by rcases sp with ⟨rfl, _⟩ | ⟨rfl, _⟩ <;> decide
  rcases sq with ⟨rfl, _⟩ | ⟨ob, sq⟩
  · rw [opt_f (by simpa using hp0), opt_t (by decide), opt_ret]
  have hq0 : ¬ q < 0 := by rcases sq with ⟨rfl, _⟩ | ⟨rfl, _⟩ <;> decide
  rw [opt_f (by simpa using hp0), opt_f (by simpa using hq0)]
  have fa : All Fine (a ++ b) := all_app.2 ⟨fun y hy => ⟨wa y hy, oa y hy⟩, fun y hy => ⟨wb y hy, ob y hy⟩⟩
  obtain ⟨m1, m2⟩ := meet_all (v := v) (a ++ b) [] fa (fun y hy => (by cases hy))
  have hnil : All (hit v) [] := fun y hy => by cases hy
  have hl := fin_len a b (by omega) (by omega)
  cases hm : meetS (a ++ b) [] with
  | none =>
    have hn := m2 hm
    rw [opt_t (by rfl)]
    have h0 : IntKind.i64.wrap (p * q) = 0 := by
      rcases sp with ⟨rfl, h1⟩ | ⟨rfl, _⟩
      · rcases sq with ⟨rfl, h2⟩ | ⟨rfl, _⟩
        · exact absurd ⟨hnil, all_app.2 ⟨h1, h2⟩⟩ hn
        · decide
      · rw [Int.zero_mul]; decide
    rw [opt_t (by simpa using h0), opt_ret]
  | some o =>
    obtain ⟨fo, to⟩ := m1 o hm
    rw [hm] at hl
    obtain ⟨r, hr, sr⟩ := takes_eq o v hv (by have : o.length ≤ 80 := hl; omega)
    rw [opt_f (by rfl)]
    have hr' : f9 (fin (some o)).1 v = some r := hr
    rw [opt_get hr']
    have he : r = IntKind.i64.wrap (p * q) := by
      rcases sr with ⟨_, h⟩ | ⟨_, sr⟩
      · exact absurd (fun y hy => (fo y hy).2) h
      · rcases sp with ⟨rfl, h1⟩ | ⟨rfl, h1⟩
        · rcases sq with ⟨rfl, h2⟩ | ⟨rfl, h2⟩
          · rcases sr with ⟨rfl, _⟩ | ⟨_, h3⟩
            · decide
            · exact absurd (to.2 ⟨hnil, all_app.2 ⟨h1, h2⟩⟩) h3
          · rcases sr with ⟨_, h3⟩ | ⟨rfl, _⟩
            · exact absurd (all_app.1 (to.1 h3).2).2 h2
            · decide
        · rcases sr with ⟨_, h3⟩ | ⟨rfl, _⟩
          · exact absurd (all_app.1 (to.1 h3).2).1 h1
          · rw [Int.zero_mul]; decide
    rw [opt_t (by simpa using he), opt_ret]

theorem wt_of {y : Test} (h : wf_35 y) : WT y := by
  have h1 : inK .u64 y.Value := h.2.1
  have h2 : inK .u64 y.Mask := h.2.2
  exact ⟨⟨h1.1, by have := h1.2; omega⟩, ⟨h2.1, by have := h2.2; omega⟩⟩

theorem law4 {p : Prop} (a b : List Test) (v : List Int) (ha : wf_22 a) (hb : wf_22 b) (hv : p) : f4 a b v = some true :=
  both a b v (fun y hy => wt_of (ha.2 y hy)) fun y hy => wt_of (hb.2 y hy)

end Go.Proofs.Cdm
