/- A part of a law's proof: CdmPl2. -/
import Derived.Test.YtnaljkdgcooidaaGreatCdmDe
import Derived.Test.YtnaljkdgcooidaaGreatCdmG1
import Derived.Test.YtnaljkdgcooidaaGreatSvPlain
set_option linter.constructorNameAsVariable false
/-
  What both of two cubes ask: the program and the document's answer come to one list, or to nothing.
-/
namespace Go.Proofs.Cdm
open Go Go.Ab
set_option linter.unusedVariables false
set_option linter.unusedSimpArgs false
set_option maxRecDepth 100000

theorem brec_len (l : List Test) : (List.brecOn.go l List.length._f).1 = l.length := by kernel_rfl

def orI (a b : Int) : Int := IntKind.u64.wrap (↑(BitVec.ofInt 64 a ||| BitVec.ofInt 64 b).toNat : Int)
def andI (a b : Int) : Int := IntKind.u64.wrap (↑(BitVec.ofInt 64 a &&& BitVec.ofInt 64 b).toNat : Int)
def xorI (a b : Int) : Int := IntKind.u64.wrap (↑(BitVec.ofInt 64 a ^^^ BitVec.ofInt 64 b).toNat : Int)

def mrg (y x : Test) : Test := ⟨y.Field, orI y.Value x.Value, orI y.Mask x.Mask⟩
def clash (y x : Test) : Bool := !decide (andI (andI (xorI y.Value x.Value) y.Mask) x.Mask = 0)

/-- Where a field's test stands, or would stand. -/
def pos (out : List Test) (f : Int) : Nat := (out.takeWhile fun y => decide (y.Field < f)).length

def Pos (out : List Test) (f : Int) (p : Nat) : Prop := p ≤ out.length ∧ (∀ (j : Nat) (h : j < out.length), j < p → out[j].Field < f) ∧ ∀ (h : p < out.length), ¬ out[p].Field < f

theorem pos_ok (out : List Test) (f : Int) : Pos out f (pos out f) := by
  induction out with
  | nil => exact ⟨Nat.le_refl _, fun j h => by simp at h, fun h => by simp at h⟩
  | cons y out ih =>
    unfold pos
    by_cases hy : y.Field < f
    · rw [List.takeWhile_cons_of_pos (by simpa using hy)]
      obtain ⟨h1, h2, h3⟩ := ih
      refine ⟨by simp only [List.length_cons]; exact Nat.succ_le_succ h1, fun j hj hp => ?_, fun h => ?_⟩
      · cases j with
        | zero => exact hy
        | succ j => exact h2 j (by simpa using hj) (by simpa [pos] using hp)
      · exact h3 (by simpa [pos] using h)
    · rw [List.takeWhile_cons_of_neg (by simpa using hy)]
      exact ⟨Nat.zero_le _, fun j _ hp => by simp at hp, fun h => hy⟩

theorem pos_uniq {out : List Test} {f : Int} {p q : Nat} (hp : Pos out f p) (hq : Pos out f q) : p = q := by
  obtain ⟨p1, p2, p3⟩ := hp
  obtain ⟨q1, q2, q3⟩ := hq
  rcases Nat.lt_trichotomy p q with h | h | h
  · exact absurd (q2 p (by omega) h) (p3 (by omega))
  · exact h
  · exact absurd (p2 q (by omega) h) (q3 (by omega))

/-- One test more, at its place. -/
def put (out : List Test) (x : Test) (p : Nat) : Option (List Test) :=
  match out[p]? with
  | some y => if y.Field = x.Field then (if clash y x then none else some (out.set p (mrg y x))) else some (out.take p ++ ([x] ++ out.drop p))
  | none => some (out.take p ++ ([x] ++ out.drop p))

def meetS : List Test → List Test → Option (List Test)
  | [], out => some out
  | x :: l, out => match put out x (pos out x.Field) with
    | none => none
    | some o => meetS l o

def fin (o : Option (List Test)) : List Test × Bool := match o with | some l => (l, true) | none => ([], false)

theorem meetS_at {l out : List Test} {i p : Nat} (h : i < l.length) (hp : Pos out l[i].Field p) : meetS (l.drop i) out = match put out l[i] p with | none => none | some o => meetS (l.drop (i + 1)) o := by
  rw [dropE h, meetS, pos_uniq (pos_ok out l[i].Field) hp]

theorem put_len {out o : List Test} {x : Test} {p : Nat} (h : put out x p = some o) : o.length ≤ out.length + 1 := by
  unfold put at h
  split at h
  · split at h
    · split at h
      · cases h
      · cases h; simp
    · cases h; simp; omega
  · cases h; simp; omega

/-! ### the document's answer -/

/-- What the document's answer does at a place. -/
theorem ref_at (a b : List Test) (x : Test) (p i : Nat) (out : List Test) (hp : Pos out x.Field p) (hl : out.length ≤ 1000) (hi : i < 1000) :
    (∃ o, put out x p = some o ∧ (g7 (.h1 a b x p i out)).opt = some (.inl (.h0 a b ((i + 1 : Nat) : Int) o))) ∨ (put out x p = none ∧ (g7 (.h1 a b x p i out)).opt = some (.inr ([], false))) := by
  obtain ⟨p1, p2, p3⟩ := hp
  have hins : out.take p ++ ([x] ++ out.drop p) = List.take (p - 0) (List.drop 0 out) ++ List.take 1 (List.drop 0 [x]) ++ List.take (out.length - p) (List.drop (0 + p) out) := by
    have : List.take (out.length - p) (List.drop p out) = List.drop p out := List.take_of_length_le (by simp)
    simp [this]
  by_cases h : p < out.length
  · have hg := nthE h
    have hg0 : out[0 + ((p : Int)).toNat]? = some out[p] := by rw [Nat.zero_add]; exact hg
    have hge : out[p]? = some out[p] := by simp
    by_cases hf : out[p].Field = x.Field
    · by_cases hc : clash out[p] x = true
      · right
        refine ⟨by unfold put; rw [hge]; simp [hf, hc], ?_⟩
        simp only [g7]
        rw [opt_t (by simp; omega), opt_chk (by omega), opt_get hg0, opt_f (by simpa using p3 h), opt_t (by simp; omega), opt_chk (by omega), opt_get hg0, opt_t (by simpa using hf),
          opt_chk (by omega), opt_get hg0, opt_chk (by omega), opt_get hg0]
        exact (opt_t hc).trans opt_ret
      · left
        refine ⟨out.set p (mrg out[p] x), by unfold put; rw [hge]; simp [hf, hc], ?_⟩
        have hs : ∀ (z : Test), (out.set (0 + ((p : Int)).toNat) z)[0 + ((p : Int)).toNat]? = some z := fun z => by
          rw [Nat.zero_add, Int.toNat_natCast, List.getElem?_set_self h]
        simp only [g7]
        rw [opt_t (by simp; omega), opt_chk (by omega), opt_get hg0, opt_f (by simpa using p3 h), opt_t (by simp; omega), opt_chk (by omega), opt_get hg0, opt_t (by simpa using hf),
          opt_chk (by omega), opt_get hg0, opt_chk (by omega), opt_get hg0]
        have hcf : clash out[p] x = false := by simpa using hc
        refine (opt_f hcf).trans ?_
        rw [opt_chk (by omega), opt_get hg0, opt_chk (by omega), opt_get hg0, opt_chk (by omega), opt_get (hs _), opt_chk (by omega), opt_get (hs _), opt_chk trivial, opt_chk (by simp), opt_ret, wsucc (by omega)]
        rw [List.set_set, Nat.zero_add, Int.toNat_natCast]
        rfl
    · left
      refine ⟨out.take p ++ ([x] ++ out.drop p), by unfold put; rw [hge]; simp [hf], ?_⟩
      simp only [g7]
      rw [opt_t (by simp; omega), opt_chk (by omega), opt_get hg0, opt_f (by simpa using p3 h), opt_t (by simp; omega), opt_chk (by omega), opt_get hg0, opt_f (by simpa using hf)]
      rw [brec_len, opt_chk (show (0 : Int) ≤ (p : Int) ∧ (p : Int) ≤ (out.length : Int) from by omega), opt_chk (by simp; omega), opt_chk (by simp; omega), opt_chk (by simp), opt_chk (by simp; omega), opt_chk (by omega), opt_chk (by simp; omega), opt_chk (by simp; omega), opt_chk trivial, opt_chk trivial, opt_ret, wsucc (by omega), hins]
      simp
  · left
    have hpe : p = out.length := by omega
    refine ⟨out.take p ++ ([x] ++ out.drop p), by unfold put; rw [List.getElem?_eq_none (by omega)], ?_⟩
    simp only [g7]
    rw [opt_f (by simp; omega), opt_f (by simp; omega)]
    rw [brec_len, opt_chk (show (0 : Int) ≤ (p : Int) ∧ (p : Int) ≤ (out.length : Int) from by omega), opt_chk (by simp; omega), opt_chk (by simp; omega), opt_chk (by simp), opt_chk (by simp; omega), opt_chk (by omega), opt_chk (by simp; omega), opt_chk (by simp; omega), opt_chk trivial, opt_chk trivial, opt_ret, wsucc (by omega), hins]
    simp

theorem ref_in (a b : List Test) (x : Test) (i : Nat) (out : List Test) (hl : out.length ≤ 1000) (hi : i < 1000) : ∀ (k at_ : Nat), at_ + k = pos out x.Field → loopO g7 (.h1 a b x at_ i out) = loopO g7 (.h1 a b x (pos out x.Field) i out) := by
  intro k
  induction k with
  | zero => intro at_ h; rw [show at_ = pos out x.Field by omega]
  | succ k ih =>
    intro at_ h
    obtain ⟨p1, p2, p3⟩ := pos_ok out x.Field
    have hlt : at_ < out.length := by omega
    have hg0 : out[0 + ((at_ : Int)).toNat]? = some out[at_] := by rw [Nat.zero_add]; exact nthE hlt
    refine loopO_inl (s' := .h1 a b x ((at_ + 1 : Nat) : Int) i out) ?_ (ih (at_ + 1) (by omega))
    simp only [g7]
    rw [opt_t (by simp; omega), opt_chk (by omega), opt_get hg0, opt_t (by simpa using p2 at_ hlt (by omega)), opt_chk trivial, opt_ret, wsucc (by omega)]

theorem ref_out (a b : List Test) (hab : (a ++ b).length ≤ 80) : ∀ (k i : Nat) (out : List Test), i + k = (a ++ b).length → out.length ≤ i → loopO g7 (.h0 a b i out) = some (fin (meetS ((a ++ b).drop i) out)) := by
  intro k
  induction k with
  | zero =>
    intro i out hi ho
    refine loopO_inr ?_
    simp only [g7]
    have hd : (a ++ b).drop i = [] := dropN (by omega)
    rw [opt_f (by simp at hi ⊢; omega), opt_chk (by omega), opt_ret, hd]
    simp [meetS, fin]
  | succ k ih =>
    intro i out hi ho
    have hlt : i < (a ++ b).length := by omega
    have hg0 : (a ++ b)[0 + ((i : Int)).toNat]? = some (a ++ b)[i] := by rw [Nat.zero_add]; exact nthE hlt
    have hstep : (g7 (.h0 a b i out)).opt = some (.inl (.h1 a b (a ++ b)[i] ((0 : Nat) : Int) i out)) := by
      simp only [g7]
      rw [opt_t (by simp at hlt ⊢; omega), opt_chk (by omega), opt_get hg0, opt_chk trivial, opt_ret]; rfl
    rw [loopO_inl hstep rfl, ref_in a b _ i out (by omega) (by omega) _ 0 (Nat.zero_add _), meetS_at hlt (pos_ok out _)]
    rcases ref_at a b (a ++ b)[i] (pos out (a ++ b)[i].Field) i out (pos_ok _ _) (by omega) (by omega) with ⟨o, h1, h2⟩ | ⟨h1, h2⟩
    · rw [loopO_inl h2 rfl, h1]
      exact ih (i + 1) o (by omega) (by have := put_len h1; omega)
    · rw [loopO_inr h2, h1]; rfl

theorem f7_eq (a b : List Test) (ha : a.length ≤ 40) (hb : b.length ≤ 40) : f7 a b = some (fin (meetS (a ++ b) [])) := by
  refine runO_inl (s' := .h0 a b ((0 : Nat) : Int) []) ?_ (ref_out a b (by simp; omega) _ 0 [] (Nat.zero_add _) (by simp))
  simp only [s7]
  rw [opt_chk (by refine ⟨?_, ?_⟩ <;> omega), opt_chk (by refine ⟨trivial, ?_, ?_⟩ <;> omega), opt_chk trivial, opt_chk (by rfl), opt_ret]
  rfl

end Go.Proofs.Cdm

/-
  What both of two cubes ask: the program.
-/
namespace Go.Proofs.Cdm
open Go Go.Ab
set_option linter.unusedVariables false
set_option linter.unusedSimpArgs false
set_option maxRecDepth 100000

/-! ### all tests in one row -/

theorem cat_sum (a : List (List Test)) (n : Nat) (ha : a.length ≤ 1000) (hn : (a.flatten).length = n) (hn2 : n ≤ 100000) : ∀ (k i : Nat), i + k = a.length →
    loopO g12 (.h0 a i (((a.take i).flatten.length : Nat) : Int)) = loopO g12 (.h0 a a.length (n : Int)) := by
  intro k
  induction k with
  | zero =>
    intro i h
    have : i = a.length := by omega
    subst this
    rw [List.take_length, hn]
  | succ k ih =>
    intro i h
    have hi : i < a.length := by omega
    have e : (a.take (i + 1)).flatten.length = (a.take i).flatten.length + a[i].length := by
      rw [List.take_succ_eq_append_getElem hi, List.flatten_append, List.flatten_cons, List.flatten_nil, List.append_nil, List.length_append]
    have hle : (a.take (i + 1)).flatten.length ≤ n := by
      rw [← hn]
      conv => rhs; rw [← List.take_append_drop (i + 1) a]
      rw [List.flatten_append, List.length_append]; omega
    refine loopO_inl (s' := .h0 a ((i + 1 : Nat) : Int) (((a.take (i + 1)).flatten.length : Nat) : Int)) ?_ (ih (i + 1) (by omega))
    have hw : IntKind.i64.wrap ((((a.take i).flatten.length : Nat) : Int) + ((a[i].length : Nat) : Int)) = (((a.take (i + 1)).flatten.length : Nat) : Int) := by
      rw [w64 (by omega) (by omega)]; omega
    simp only [g12]
    rw [opt_t (by simp; omega), opt_chk (by omega), opt_get (nthE hi), hw, opt_f (by simp), opt_ret, wsucc (by omega)]

theorem cat_app (a : List (List Test)) (ha : a.length ≤ 1000) (hn2 : (a.flatten).length ≤ 100000) : ∀ (k i : Nat), i + k = a.length → loopO g12 (.h1 a i (a.take i).flatten) = some a.flatten := by
  intro k
  induction k with
  | zero =>
    intro i h
    have : i = a.length := by omega
    subst this
    refine loopO_inr ?_
    simp only [g12]
    rw [opt_f (by simp), opt_chk (by omega), opt_ret, List.drop_zero, List.take_length, List.take_length]
  | succ k ih =>
    intro i h
    have hi : i < a.length := by omega
    have e : (a.take (i + 1)).flatten = (a.take i).flatten ++ a[i] := by
      rw [List.take_succ_eq_append_getElem hi, List.flatten_append, List.flatten_cons, List.flatten_nil, List.append_nil]
    have hle : (a.take (i + 1)).flatten.length ≤ a.flatten.length := by
      conv => rhs; rw [← List.take_append_drop (i + 1) a]
      rw [List.flatten_append, List.length_append]; omega
    rw [e, List.length_append] at hle
    refine loopO_inl (s' := .h1 a ((i + 1 : Nat) : Int) (a.take (i + 1)).flatten) ?_ (ih (i + 1) (by omega))
    simp only [g12]
    rw [opt_t (by simp; omega), opt_chk (by omega), opt_get (nthE hi), opt_chk (by refine ⟨trivial, ?_, ?_⟩ <;> omega), opt_chk trivial, opt_ret, wsucc (by omega), e]

theorem f12_eq (a : List (List Test)) (ha : a.length ≤ 1000) (hn2 : (a.flatten).length ≤ 100000) : f12 a = some a.flatten := by
  refine runO_inl (s' := .h0 a ((0 : Nat) : Int) ((((a.take 0).flatten.length : Nat)) : Int)) rfl ?_
  rw [cat_sum a _ ha rfl hn2 a.length 0 (by omega)]
  refine loopO_inl (s' := .h1 a ((0 : Nat) : Int) (a.take 0).flatten) ?_ (cat_app a ha hn2 a.length 0 (by omega))
  simp only [g12]
  rw [opt_f (by simp), opt_chk (by refine ⟨?_, ?_, ?_⟩ <;> omega), opt_chk (by rfl), opt_ret]
  simp

/-! ### where a test stands -/

def Sorted (out : List Test) : Prop := ∀ (i j : Nat) (hi : i < out.length) (hj : j < out.length), i < j → out[i].Field < out[j].Field

theorem cmp_lt (y : Test) (f : Int) : (f14 y f < 0) = (y.Field < f) := by
  unfold f14 u14 f15 u15 f23 u23
  simp only [tot_ite, tot_ret]
  by_cases h1 : y.Field < f
  · simp [h1]
  · by_cases h2 : f < y.Field
    · simp [h1, h2]
    · simp [h1, h2]

theorem cmp_eq (y : Test) (f : Int) : (f14 y f = 0) = (y.Field = f) := by
  unfold f14 u14 f15 u15 f23 u23
  simp only [tot_ite, tot_ret]
  by_cases h1 : y.Field < f
  · simp [h1]; omega
  · by_cases h2 : f < y.Field
    · simp [h1, h2]; omega
    · have : y.Field = f := by omega
      simp [this]

theorem mid_eq (a b : Nat) (h : a + b < 1000000) : IntKind.i64.wrap ((IntKind.u64.wrap (IntKind.i64.wrap ((a : Int) + (b : Int)))).fdiv ((2 : Int) ^ (1 : Nat))) = (((a + b) / 2 : Nat) : Int) := by
  rw [w64 (x := (a : Int) + b) (by omega) (by omega), wu64 (x := (a : Int) + b) (by omega) (by omega), fdivp, w64 (by omega) (by omega)]
  omega

/-- The search, whatever is left of it. -/
theorem search (l : List Test) (x : Test) (i : Nat) (out : List Test) (hs : Sorted out) (hl : out.length ≤ 1000) : ∀ (k lo hi : Nat), lo + k = hi → hi ≤ out.length → lo ≤ pos out x.Field → pos out x.Field ≤ hi →
    loopO g6 (.h1 l x lo hi i out.length out) = loopO g6 (.h1 l x (pos out x.Field) (pos out x.Field) i out.length out) := by
  intro k
  induction k using Nat.strongRecOn with
  | _ k ih =>
    intro lo hi hk hh h1 h2
    obtain ⟨p1, p2, p3⟩ := pos_ok out x.Field
    by_cases h0 : k = 0
    · have e1 : lo = pos out x.Field := by omega
      have e2 : hi = pos out x.Field := by omega
      rw [e1, e2]
    · have hm : (lo + hi) / 2 < out.length := by omega
      have hg0 : out[0 + ((((lo + hi) / 2 : Nat) : Int)).toNat]? = some out[(lo + hi) / 2] := by rw [Nat.zero_add]; exact nthE hm
      by_cases hc : out[(lo + hi) / 2].Field < x.Field
      · -- behind the middle
        have hp : (lo + hi) / 2 < pos out x.Field := by
          rcases Nat.lt_or_ge ((lo + hi) / 2) (pos out x.Field) with h | h
          · exact h
          · exfalso
            have hpl : pos out x.Field < out.length := by omega
            rcases Nat.lt_or_eq_of_le h with h' | h'
            · have := hs _ _ hpl hm h'
              exact p3 hpl (by omega)
            · exact p3 hpl (by simpa [h'] using hc)
        refine loopO_inl (s' := .h1 l x (((lo + hi) / 2 + 1 : Nat) : Int) hi i out.length out) ?_ (ih (hi - ((lo + hi) / 2 + 1)) (by omega) _ hi (by omega) hh (by omega) h2)
        simp only [g6]
        rw [opt_t (by simp; omega), opt_chk (by omega)]
        rw [mid_eq lo hi (by omega), opt_chk (by omega), opt_get hg0, opt_t (by simp only [cmp_lt, decide_eq_true_eq]; exact hc), opt_ret, wsucc (by omega)]
      · have hp : pos out x.Field ≤ (lo + hi) / 2 := by
          rcases Nat.lt_or_ge ((lo + hi) / 2) (pos out x.Field) with h | h
          · exact absurd (p2 _ hm h) hc
          · exact h
        refine loopO_inl (s' := .h1 l x lo (((lo + hi) / 2 : Nat) : Int) i out.length out) ?_ (ih ((lo + hi) / 2 - lo) (by omega) lo _ (by omega) (by omega) h1 hp)
        simp only [g6]
        rw [opt_t (by simp; omega), opt_chk (by omega)]
        rw [mid_eq lo hi (by omega), opt_chk (by omega), opt_get hg0, opt_f (by simp only [cmp_lt, decide_eq_false_iff_not]; exact hc), opt_ret]

/-- What the program does at a place. -/
theorem prog_at (l : List Test) (x : Test) (p i : Nat) (out : List Test) (hp : Pos out x.Field p) (hl : out.length ≤ 1000) (hi : i < 1000) :
    (∃ o, put out x p = some o ∧ (g6 (.h1 l x p p i out.length out)).opt = some (.inl (.h0 l ((i + 1 : Nat) : Int) o))) ∨ (put out x p = none ∧ (g6 (.h1 l x p p i out.length out)).opt = some (.inr ([], false))) := by
  obtain ⟨p1, p2, p3⟩ := hp
  by_cases h : p < out.length
  · have hg0 : out[0 + ((p : Int)).toNat]? = some out[p] := by rw [Nat.zero_add]; exact nthE h
    have hge : out[p]? = some out[p] := by simp
    by_cases hf : out[p].Field = x.Field
    · by_cases hc : clash out[p] x = true
      · right
        refine ⟨by unfold put; rw [hge]; simp [hf, hc], ?_⟩
        simp only [g6]
        rw [opt_f (by simp), opt_t (by simp; omega), opt_chk (by omega), opt_get hg0, opt_f (by simp only [cmp_eq, hf]; simp), opt_chk (by omega), opt_get hg0, opt_chk (by omega), opt_get hg0]
        exact (opt_t hc).trans opt_ret
      · left
        refine ⟨out.set p (mrg out[p] x), by unfold put; rw [hge]; simp [hf, hc], ?_⟩
        have hs : ∀ (z : Test), (out.set (0 + ((p : Int)).toNat) z)[0 + ((p : Int)).toNat]? = some z := fun z => by
          rw [Nat.zero_add, Int.toNat_natCast, List.getElem?_set_self h]
        have hcf : clash out[p] x = false := by simpa using hc
        simp only [g6]
        rw [opt_f (by simp), opt_t (by simp; omega), opt_chk (by omega), opt_get hg0, opt_f (by simp only [cmp_eq, hf]; simp), opt_chk (by omega), opt_get hg0, opt_chk (by omega), opt_get hg0]
        refine (opt_f hcf).trans ?_
        rw [opt_chk (by omega), opt_get hg0, opt_chk (by omega), opt_get hg0, opt_chk (by omega), opt_get (hs _), opt_chk (by omega), opt_get (hs _), opt_chk (by simp), opt_ret, wsucc (by omega)]
        rw [List.set_set, Nat.zero_add, Int.toNat_natCast]
        rfl
    · left
      refine ⟨out.take p ++ ([x] ++ out.drop p), by unfold put; rw [hge]; simp [hf], ?_⟩
      simp only [g6]
      rw [opt_f (by simp), opt_t (by simp; omega), opt_chk (by omega), opt_get hg0, opt_t (by simp only [cmp_eq]; simpa using hf), opt_chk (by simp; omega), opt_chk trivial, opt_ret, wsucc (by omega)]
      simp
  · left
    refine ⟨out.take p ++ ([x] ++ out.drop p), by unfold put; rw [List.getElem?_eq_none (by omega)], ?_⟩
    simp only [g6]
    rw [opt_f (by simp), opt_f (by simp; omega), opt_chk (by simp; omega), opt_chk trivial, opt_ret, wsucc (by omega)]
    simp

theorem put_sorted {out o : List Test} {x : Test} (hs : Sorted out) (h : put out x (pos out x.Field) = some o) : Sorted o := by
  obtain ⟨p1, p2, p3⟩ := pos_ok out x.Field
  generalize pos out x.Field = p at *
  have merged : ∀ (y : Test) (hp : p < out.length), y.Field = out[p].Field → Sorted (out.set p y) := by
    intro y hp hy i j hi hj hij
    rw [List.length_set] at hi hj
    have e : ∀ (k : Nat) (hk : k < out.length), ((out.set p y)[k]'(by rw [List.length_set]; exact hk)).Field = out[k].Field := by
      intro k hk
      by_cases hkp : p = k
      · subst hkp; rw [List.getElem_set_self]; exact hy
      · rw [List.getElem_set_ne hkp]
    rw [e i hi, e j hj]
    exact hs i j hi hj hij
  have inserted : (∀ (hp : p < out.length), x.Field < out[p].Field) → Sorted (out.take p ++ ([x] ++ out.drop p)) := by
    intro hx i j hi hj hij
    have len : (out.take p).length = p := by rw [List.length_take]; omega
    have low : ∀ (k : Nat) (hk : k < p), (out.take p ++ ([x] ++ out.drop p))[k]? = out[k]? := by
      intro k hk
      rw [List.getElem?_append_left (by omega), List.getElem?_take_of_lt hk]
    have mid : (out.take p ++ ([x] ++ out.drop p))[p]? = some x := by
      rw [List.getElem?_append_right (by omega), len, Nat.sub_self]; rfl
    have high : ∀ (k : Nat) (hk : p < k), (out.take p ++ ([x] ++ out.drop p))[k]? = out[k - 1]? := by
      intro k hk
      rw [List.getElem?_append_right (by omega), len, List.getElem?_append_right (by simp; omega), List.getElem?_drop]
      congr 1; simp; omega
    have hlen : (out.take p ++ ([x] ++ out.drop p)).length = out.length + 1 := by simp; omega
    have fe : ∀ (k : Nat) (hk : k < (out.take p ++ ([x] ++ out.drop p)).length) (z : Test), (out.take p ++ ([x] ++ out.drop p))[k]? = some z → (out.take p ++ ([x] ++ out.drop p))[k] = z := by
      intro k hk z hz
      rw [List.getElem?_eq_getElem hk] at hz
      exact Option.some.inj hz
    rw [hlen] at hi hj
    have ltp : ∀ (k : Nat) (hk : k < out.length), p ≤ k → x.Field < out[k].Field := by
      intro k hk hpk
      rcases Nat.lt_or_eq_of_le hpk with h | h
      · have := hs p k (by omega) hk h
        have := hx (by omega)
        omega
      · subst h; exact hx hk
    rcases Nat.lt_trichotomy i p with h1 | h1 | h1
    · have ei : (out.take p ++ ([x] ++ out.drop p))[i] = out[i] := fe i _ _ (by rw [low i h1]; simp)
      rcases Nat.lt_trichotomy j p with h2 | h2 | h2
      · have ej : (out.take p ++ ([x] ++ out.drop p))[j] = out[j] := fe j _ _ (by rw [low j h2]; simp)
        rw [ei, ej]; exact hs i j _ _ hij
      · subst h2
        have ej : (out.take j ++ ([x] ++ out.drop j))[j] = x := fe j _ _ mid
        rw [ei, ej]; exact p2 i (by omega) h1
      · have ej : (out.take p ++ ([x] ++ out.drop p))[j] = out[j - 1] := fe j _ _ (by rw [high j h2]; simp)
        rw [ei, ej]; exact hs i (j - 1) _ _ (by omega)
    · subst h1
      have ei : (out.take i ++ ([x] ++ out.drop i))[i] = x := fe i _ _ mid
      have ej : (out.take i ++ ([x] ++ out.drop i))[j] = out[j - 1] := fe j _ _ (by rw [high j hij]; simp)
      rw [ei, ej]; exact ltp (j - 1) (by omega) (by omega)
    · have ei : (out.take p ++ ([x] ++ out.drop p))[i] = out[i - 1] := fe i _ _ (by rw [high i h1]; simp)
      have ej : (out.take p ++ ([x] ++ out.drop p))[j] = out[j - 1] := fe j _ _ (by rw [high j (by omega)]; simp)
      rw [ei, ej]; exact hs (i - 1) (j - 1) _ _ (by omega)
  unfold put at h
  split at h
  · rename_i y hy
    obtain ⟨hp, rfl⟩ := List.getElem?_eq_some_iff.1 hy
    split at h
    · rename_i hf
      split at h
      · cases h
      · cases h; exact merged _ hp rfl
    · rename_i hf
      cases h
      exact inserted fun _ => by have := p3 hp; omega
  · rename_i hy
    cases h
    refine inserted fun hp => ?_
    rw [List.getElem?_eq_getElem hp] at hy; cases hy

theorem prog_out (l : List Test) (hl : l.length ≤ 80) : ∀ (k i : Nat) (out : List Test), i + k = l.length → out.length ≤ i → Sorted out → loopO g6 (.h0 l i out) = some (fin (meetS (l.drop i) out)) := by
  intro k
  induction k with
  | zero =>
    intro i out hi ho hs
    refine loopO_inr ?_
    have hd : l.drop i = [] := dropN (by omega)
    simp only [g6]
    rw [opt_f (by simp; omega), opt_chk (by omega), opt_ret, hd]
    simp [meetS, fin]
  | succ k ih =>
    intro i out hi ho hs
    have hlt : i < l.length := by omega
    have hstep : (g6 (.h0 l i out)).opt = some (.inl (.h1 l l[i] ((0 : Nat) : Int) out.length i out.length out)) := by
      simp only [g6]
      rw [opt_t (by simp; omega), opt_chk (by omega), opt_get (nthE hlt), opt_ret]; rfl
    rw [loopO_inl hstep rfl, search l l[i] i out hs (by omega) out.length 0 out.length (by omega) (Nat.le_refl _) (Nat.zero_le _) (pos_ok out _).1, meetS_at hlt (pos_ok out _)]
    rcases prog_at l l[i] (pos out l[i].Field) i out (pos_ok _ _) (by omega) (by omega) with ⟨o, h1, h2⟩ | ⟨h1, h2⟩
    · rw [loopO_inl h2 rfl, h1]
      exact ih (i + 1) o (by omega) (by have := put_len h1; omega) (put_sorted hs h1)
    · rw [loopO_inr h2, h1]; rfl

theorem sorted_nil : Sorted [] := fun i j hi => by simp at hi

theorem f6_eq (a b : List Test) (ha : a.length ≤ 40) (hb : b.length ≤ 40) : f6 a b = some (fin (meetS (a ++ b) [])) := by
  have hf : List.flatten [a, b] = a ++ b := by simp
  refine runO_inl (s' := .h0 (a ++ b) ((0 : Nat) : Int) []) ?_ (prog_out (a ++ b) (by simp; omega) _ 0 [] (Nat.zero_add _) (by simp) sorted_nil)
  simp only [s6]
  rw [opt_chk (by exact Nat.le_refl 2), opt_get (f12_eq _ (by simp) (by simp; omega)), opt_chk (by rfl), opt_ret]
  simp

theorem same_self (l : List Test) (hl : l.length ≤ 1000000) : f8 l l = some true := by
  have h : ∀ (k i : Nat), i + k = l.length → loopO g8 (.h0 l l i) = some true := by
    intro k
    induction k with
    | zero =>
      intro i hi
      refine loopO_inr ?_
      simp only [g8]
      rw [opt_f (by simp; omega), opt_ret]
    | succ k ih =>
      intro i hi
      have hi' : i < l.length := by omega
      refine loopO_inl (s' := .h0 l l ((i + 1 : Nat) : Int)) ?_ (ih (i + 1) (by omega))
      simp only [g8]
      rw [opt_t (by simp; omega), opt_chk (by omega), opt_get (nthE hi'), opt_chk (by omega), opt_get (nthE hi'), opt_f (by simp), opt_ret, wsucc (by omega)]
  refine runO_inl (s' := .h0 l l ((0 : Nat) : Int)) ?_ (h l.length 0 (by omega))
  simp only [s8]
  rw [opt_f (by simp), opt_ret]
  rfl

theorem meet_len : ∀ (l out o : List Test), meetS l out = some o → o.length ≤ out.length + l.length := by
  intro l
  induction l with
  | nil => intro out o h; cases h; simp
  | cons x l ih =>
    intro out o h
    unfold meetS at h
    split at h
    · cases h
    · rename_i o1 h1
      have := put_len h1
      have := ih _ _ h
      simp; omega

theorem fin_len (a b : List Test) (ha : a.length ≤ 40) (hb : b.length ≤ 40) : (fin (meetS (a ++ b) [])).1.length ≤ 80 := by
  cases h : meetS (a ++ b) [] with
  | none => simp [fin]
  | some o =>
    have := meet_len _ _ _ h
    simp at this
    simp only [fin]; omega

/-- CodeMeets. -/
theorem meets (a b : List Test) : f3 a b = some true := by
  unfold f3 u3
  by_cases ha : 40 < a.length
  · rw [opt_t (by simp; omega), opt_ret]
  by_cases hb : 40 < b.length
  · rw [opt_f (by simp; omega), opt_t (by simp; omega), opt_ret]
  have hl := fin_len a b (by omega) (by omega)
  rw [opt_f (by simp; omega), opt_f (by simp; omega), opt_get (f6_eq a b (by omega) (by omega)), opt_get (f7_eq a b (by omega) (by omega)), opt_get (same_self _ (by omega)), opt_t rfl, opt_t (by simp), opt_ret]

theorem law3 (a b : List Test) (ha : wf_24 a) (hb : wf_24 b) : f3 a b = some true := meets a b

end Go.Proofs.Cdm
