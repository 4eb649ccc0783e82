/- A part of a law's proof: NfaPl5. -/
import Derived.Test.YtknpnjnnebgjeaaNfaDe
import Derived.Test.YtknpnjnnebgjeaaNfaDeU
import Derived.Test.YtknpnjnnebgjeaaNfaG1
import Derived.Test.YtknpnjnnebgjeaaSvPlain
set_option linter.constructorNameAsVariable false
/-
  Which states are right: the program and the document's answer say the same.
-/
namespace Go.Proofs.Nfa
open Go Go.Ab Go.ChangeShapes
set_option linter.unusedVariables false
set_option linter.unusedSimpArgs false
set_option maxRecDepth 100000

/-- Rising, from behind a number on, and below another one. -/
def chain (n : Int) : Int → List Int → Bool
  | _, [] => true
  | last, t :: ts => decide (last < t) && (decide (t < n) && chain n t ts)

def okS (n : Int) (s : NfaState) : Bool := decide (0 ≤ s.Switch) && (decide (s.Switch ≤ 65535) && chain n 0 s.Next)

def fst0 (l : List NfaState) : Bool := match l with
  | s :: _ => decide (s.Switch = 0)
  | [] => false

def rightB (a : Nfa) : Bool := decide (a.States.length ≤ 64) && (fst0 a.States && a.States.all (okS a.States.length))

/-- What is known of the lengths. -/
def Small (a : Nfa) : Prop := a.States.length < 9223372036854775807 ∧ ∀ s ∈ a.States, s.Next.length < 9223372036854775807

theorem getO {α : Type} {l : List α} {i : Nat} (h : i < l.length) : l[((i : Nat) : Int).toNat]? = some l[i] := by simp [h]

theorem loop7b (a : Nfa) (x : NfaState) (j : Nat) (hx : x.Next.length < 9223372036854775807) (r : Option Bool) (hr : ∀ last, loopO g7 (.h1 a x (x.Next.length : Int) last (j : Int)) = r) :
    ∀ (k i : Nat) (last : Int), x.Next.length - i = k → i ≤ x.Next.length → loopO g7 (.h1 a x (i : Int) last (j : Int)) = if chain a.States.length last (x.Next.drop i) = true then r else some false := by
  intro k
  induction k with
  | zero =>
    intro i last hk hi
    have : i = x.Next.length := by omega
    subst this
    rw [dropN (Nat.le_refl _), hr]
    simp [chain]
  | succ k ih =>
    intro i last hk hi
    have hlt : i < x.Next.length := by omega
    have hg : (g7 (.h1 a x (i : Int) last (j : Int))).opt = if x.Next[i] ≤ last then some (.inr false) else if (a.States.length : Int) ≤ x.Next[i] then some (.inr false) else some (.inl (.h1 a x ((i + 1 : Nat) : Int) x.Next[i] (j : Int))) := by
      unfold g7
      rw [opt_t (by simpa using (by exact_mod_cast hlt : (i : Int) < (x.Next.length : Int))), opt_chk (by omega), opt_get (getO hlt), opt_ite, opt_ite, wsucc (by omega)]
      simp only [decide_eq_true_eq]
      split
      · rfl
      · split <;> rfl
    rw [dropE hlt, chain]
    by_cases h1 : x.Next[i] ≤ last
    · rw [loopO_inr (x := false) (by rw [hg, if_pos h1])]
      rw [if_neg (by simp; omega)]
    · by_cases h2 : (a.States.length : Int) ≤ x.Next[i]
      · rw [loopO_inr (x := false) (by rw [hg, if_neg h1, if_pos h2])]
        rw [if_neg (by simp; omega)]
      · rw [loopO_inl (by rw [hg, if_neg h1, if_neg h2]) (ih (i + 1) x.Next[i] (by omega) (by omega))]
        have e1 : decide (last < x.Next[i]) = true := by simp; omega
        have e2 : decide (x.Next[i] < (a.States.length : Int)) = true := by simp; omega
        rw [e1, e2, Bool.true_and, Bool.true_and]

theorem loop7 (a : Nfa) (hs : Small a) : ∀ (k j : Nat), a.States.length - j = k → j ≤ a.States.length → loopO g7 (.h0 a (j : Int)) = some ((a.States.drop j).all (okS a.States.length)) := by
  intro k
  induction k with
  | zero =>
    intro j hk hj
    have : j = a.States.length := by omega
    subst this
    rw [dropN (Nat.le_refl _)]
    refine loopO_inr ?_
    unfold g7
    rw [opt_f (by simp), opt_ret]
    rfl
  | succ k ih =>
    intro j hk hj
    have hlt : j < a.States.length := by omega
    have hx := hs.2 a.States[j] (List.getElem_mem hlt)
    have hg : (g7 (.h0 a (j : Int))).opt = if a.States[j].Switch < 0 then some (.inr false) else if (65535 : Int) < a.States[j].Switch then some (.inr false) else some (.inl (.h1 a a.States[j] 0 0 (j : Int))) := by
      unfold g7
      rw [opt_t (by simpa using (by exact_mod_cast hlt : (j : Int) < (a.States.length : Int))), opt_chk (by omega), opt_get (getO hlt), opt_ite, opt_ite]
      simp only [decide_eq_true_eq]
      split
      · rfl
      · split <;> rfl
    rw [dropE hlt, List.all_cons, okS]
    by_cases h1 : a.States[j].Switch < 0
    · rw [loopO_inr (x := false) (by rw [hg, if_pos h1])]
      have : decide (0 ≤ a.States[j].Switch) = false := by simp; omega
      rw [this]; rfl
    · by_cases h2 : (65535 : Int) < a.States[j].Switch
      · rw [loopO_inr (x := false) (by rw [hg, if_neg h1, if_pos h2])]
        have : decide (a.States[j].Switch ≤ 65535) = false := by simp; omega
        rw [this]; simp
      · have e1 : decide (0 ≤ a.States[j].Switch) = true := by simp; omega
        have e2 : decide (a.States[j].Switch ≤ 65535) = true := by simp; omega
        rw [e1, e2, Bool.true_and, Bool.true_and]
        refine loopO_inl (by rw [hg, if_neg h1, if_neg h2]) ?_
        have := loop7b a a.States[j] j hx (some ((a.States.drop (j + 1)).all (okS a.States.length))) (fun last => by
          refine loopO_inl (s' := .h0 a ((j + 1 : Nat) : Int)) ?_ (ih (j + 1) (by omega) (by omega))
          unfold g7
          rw [opt_f (by simp), opt_ret, wsucc (by have := hs.1; omega)]) a.States[j].Next.length 0 0 (by omega) (by omega)
        rw [show ((0 : Nat) : Int) = 0 from rfl, List.drop_zero] at this
        rw [this]
        by_cases hc : chain a.States.length 0 a.States[j].Next = true
        · rw [if_pos hc, hc, Bool.true_and]
        · rw [if_neg hc]
          rw [Bool.not_eq_true] at hc
          rw [hc]; rfl

theorem right7 (a : Nfa) (hs : Small a) : f7 a = some (rightB a) := by
  unfold f7 rightB
  by_cases h0 : a.States.length = 0
  · have : a.States = [] := List.length_eq_zero_iff.1 h0
    refine runO_inr ?_
    unfold s7
    rw [opt_t (by simp [h0]), opt_ret]
    simp [this, fst0]
  · by_cases h1 : (64 : Int) < a.States.length
    · refine runO_inr ?_
      unfold s7
      rw [opt_f (by simpa using h0), opt_t (by simpa using h1), opt_ret]
      have : decide (a.States.length ≤ 64) = false := by simp; omega
      rw [this]; rfl
    · have hp : 0 < a.States.length := by omega
      have hd : decide (a.States.length ≤ 64) = true := by simp; omega
      have hf : fst0 a.States = decide (a.States[0].Switch = 0) := by
        generalize a.States = l at hp
        cases l with
        | nil => simp at hp
        | cons s l => rfl
      have hget : a.States[(0 : Nat)]? = some a.States[0] := by simp [hp]
      have hs7 : (s7 a).opt = if a.States[0].Switch = 0 then some (.inl (.h0 a 0)) else some (.inr false) := by
        unfold s7
        rw [opt_f (by simpa using h0), opt_f (by simpa using h1), opt_chk (by omega), opt_get hget, opt_ite]
        by_cases h2 : a.States[0].Switch = 0
        · simp [h2]; rfl
        · simp [h2]; rfl
      by_cases h2 : a.States[0].Switch = 0
      · rw [runO_inl (by rw [hs7, if_pos h2]; rfl) (loop7 a hs a.States.length 0 (by omega) (by omega)), hd, hf, List.drop_zero]
        simp [h2]
      · rw [runO_inr (x := false) (by rw [hs7, if_neg h2]), hd, hf]
        simp [h2]


/-- The number ahead, or 0. -/
def prev (l : List Int) (i : Nat) : Int := if i = 0 then 0 else l.getD (i - 1) 0

theorem loop8b (a : Nfa) (x : NfaState) (j : Int) (b1 b2 b3 : Bool) (i' : Int) (hx : x.Next.length < 9223372036854775807) (r : Option Bool) (hr : loopO g8 (.h1 a x b1 b2 (x.Next.length : Int) b3 i' j) = r) :
    ∀ (k i : Nat), x.Next.length - i = k → i ≤ x.Next.length → 0 ≤ prev x.Next i → loopO g8 (.h1 a x b1 b2 (i : Int) b3 i' j) = if chain a.States.length (prev x.Next i) (x.Next.drop i) = true then r else some false := by
  intro k
  induction k with
  | zero =>
    intro i hk hi _
    have : i = x.Next.length := by omega
    subst this
    rw [dropN (Nat.le_refl _), hr]
    simp [chain]
  | succ k ih =>
    intro i hk hi hp
    have hlt : i < x.Next.length := by omega
    have hpv : prev x.Next (i + 1) = x.Next[i] := by simp [prev, hlt]
    have hg : (g8 (.h1 a x b1 b2 (i : Int) b3 i' j)).opt = if x.Next[i] < 1 then some (.inr false) else if (a.States.length : Int) ≤ x.Next[i] then some (.inr false) else if 0 < i ∧ x.Next[i] ≤ prev x.Next i then some (.inr false) else some (.inl (.h1 a x b1 b2 ((i + 1 : Nat) : Int) b3 i' j)) := by
      unfold g8
      rw [opt_t (by simpa using (by exact_mod_cast hlt : (i : Int) < (x.Next.length : Int))), opt_chk (by omega), opt_get (getO hlt), opt_ite]
      simp only [decide_eq_true_eq]
      by_cases h1 : x.Next[i] < 1
      · rw [if_pos h1, if_pos h1]; rfl
      · rw [if_neg h1, if_neg h1, opt_chk (by omega), opt_get (getO hlt), opt_ite]
        simp only [decide_eq_true_eq]
        by_cases h2 : (a.States.length : Int) ≤ x.Next[i]
        · rw [if_pos h2, if_pos h2]; rfl
        · rw [if_neg h2, if_neg h2, opt_ite]
          simp only [decide_eq_true_eq]
          by_cases h3 : 0 < i
          · have h3' : (0 : Int) < (i : Int) := by exact_mod_cast h3
            have hpl : i - 1 < x.Next.length := by omega
            have ew : IntKind.i64.wrap ((i : Int) - 1) = ((i - 1 : Nat) : Int) := by rw [w64 (by omega) (by omega)]; omega
            have epv : prev x.Next i = x.Next[i - 1] := by simp [prev, show i ≠ 0 by omega, hpl]
            rw [if_pos h3', opt_chk (by omega), opt_get (getO hlt), ew, opt_chk (by omega), opt_get (getO hpl), opt_ite, wsucc (by omega), epv]
            simp only [decide_eq_true_eq]
            by_cases h4 : x.Next[i] ≤ x.Next[i - 1]
            · rw [if_pos h4, if_pos ⟨h3, h4⟩]; rfl
            · rw [if_neg h4, if_neg (fun h => h4 h.2)]; rfl
          · have h3' : ¬ (0 : Int) < (i : Int) := by omega
            rw [if_neg h3', if_neg (fun h => h3 h.1), wsucc (by omega)]; rfl
    rw [dropE hlt, chain]
    by_cases h1 : x.Next[i] < 1
    · rw [loopO_inr (x := false) (by rw [hg, if_pos h1])]
      rw [if_neg (by simp; omega)]
    · by_cases h2 : (a.States.length : Int) ≤ x.Next[i]
      · rw [loopO_inr (x := false) (by rw [hg, if_neg h1, if_pos h2])]
        rw [if_neg (by simp; omega)]
      · by_cases h3 : 0 < i ∧ x.Next[i] ≤ prev x.Next i
        · rw [loopO_inr (x := false) (by rw [hg, if_neg h1, if_neg h2, if_pos h3])]
          rw [if_neg (by simp; omega)]
        · rw [loopO_inl (by rw [hg, if_neg h1, if_neg h2, if_neg h3]) (ih (i + 1) (by omega) (by omega) (by rw [hpv]; omega)), hpv]
          have e1 : decide (prev x.Next i < x.Next[i]) = true := by
            simp only [decide_eq_true_eq]
            rcases Nat.eq_zero_or_pos i with h | h
            · subst h; simp only [prev, if_true]; omega
            · have : ¬ x.Next[i] ≤ prev x.Next i := fun h' => h3 ⟨h, h'⟩
              omega
          have e2 : decide (x.Next[i] < (a.States.length : Int)) = true := by simp; omega
          rw [e1, e2, Bool.true_and, Bool.true_and]

/-- The first one's number is 0, where it is still to be asked. -/
def first (l : List NfaState) (j : Nat) : Bool := j != 0 || fst0 l

theorem loop8 (a : Nfa) (hs : Small a) : ∀ (k j : Nat), a.States.length - j = k → j ≤ a.States.length → 0 < a.States.length → loopO g8 (.h0 a (j : Int)) = some (first a.States j && (a.States.drop j).all (okS a.States.length)) := by
  intro k
  induction k with
  | zero =>
    intro j hk hj hp
    have : j = a.States.length := by omega
    subst this
    have : first a.States a.States.length = true := by simp [first]; left; intro h; rw [h] at hp; simp at hp
    rw [dropN (Nat.le_refl _), this]
    refine loopO_inr ?_
    unfold g8
    rw [opt_f (by simp), opt_ret]
    rfl
  | succ k ih =>
    intro j hk hj hp
    have hlt : j < a.States.length := by omega
    have hx := hs.2 a.States[j] (List.getElem_mem hlt)
    have hfj : first a.States j = !(decide (j = 0) && !decide (a.States[j].Switch = 0)) := by
      rcases Nat.eq_zero_or_pos j with h | h
      · subst h
        have : fst0 a.States = decide (a.States[0].Switch = 0) := by
          generalize a.States = l at hlt
          cases l with
          | nil => simp at hlt
          | cons s l => rfl
        simp [first, this]
      · have : j ≠ 0 := by omega
        simp [first, this]
    obtain ⟨b1, b2, b3, hg⟩ : ∃ b1 b2 b3, (g8 (.h0 a (j : Int))).opt = if a.States[j].Switch < 0 then some (.inr false) else if (65535 : Int) < a.States[j].Switch then some (.inr false) else if first a.States j = false then some (.inr false) else some (.inl (.h1 a a.States[j] b1 b2 0 b3 (j : Int) (j : Int))) := by
      unfold g8
      rw [opt_t (by simpa using (by exact_mod_cast hlt : (j : Int) < (a.States.length : Int))), opt_chk (by omega), opt_get (getO hlt), opt_ite, hfj]
      simp only [decide_eq_true_eq]
      by_cases h1 : a.States[j].Switch < 0
      · exact ⟨false, false, false, by rw [if_pos h1, if_pos h1]; rfl⟩
      · rw [if_neg h1, opt_ite]
        simp only [decide_eq_true_eq]
        by_cases h2 : (65535 : Int) < a.States[j].Switch
        · exact ⟨false, false, false, by rw [if_neg h1, if_pos h2, if_pos h2]; rfl⟩
        · rw [if_neg h2, opt_ite]
          simp only [decide_eq_true_eq]
          by_cases h3 : j = 0
          · have h3' : (j : Int) = 0 := by omega
            rw [if_pos h3', opt_ite]
            by_cases h4 : a.States[j].Switch = 0
            · refine ⟨!decide (a.States[j].Switch = 0), true, decide ((j : Int) = 0), ?_⟩
              have e : decide (a.States[j].Switch = 0) = true := by simp [h4]
              rw [if_neg h1, if_neg h2, e, if_neg (by simp), if_neg (by simp)]; rfl
            · refine ⟨false, false, false, ?_⟩
              have e : decide (a.States[j].Switch = 0) = false := by simp [h4]
              have e' : decide (j = 0) = true := by simp [h3]
              rw [if_neg h1, if_neg h2, e, e', if_pos (by simp), if_pos (by simp)]; rfl
          · have h3' : ¬ (j : Int) = 0 := by omega
            refine ⟨false, false, decide ((j : Int) = 0), ?_⟩
            rw [if_neg h1, if_neg h2, if_neg h3', if_neg (by simp [h3])]; rfl
    rw [dropE hlt, List.all_cons, okS]
    by_cases h1 : a.States[j].Switch < 0
    · rw [loopO_inr (x := false) (by rw [hg, if_pos h1])]
      have : decide (0 ≤ a.States[j].Switch) = false := by simp; omega
      rw [this]; simp
    · by_cases h2 : (65535 : Int) < a.States[j].Switch
      · rw [loopO_inr (x := false) (by rw [hg, if_neg h1, if_pos h2])]
        have : decide (a.States[j].Switch ≤ 65535) = false := by simp; omega
        rw [this]; simp
      · by_cases h3 : first a.States j = false
        · rw [loopO_inr (x := false) (by rw [hg, if_neg h1, if_neg h2, if_pos h3]), h3]; rfl
        · have e1 : decide (0 ≤ a.States[j].Switch) = true := by simp; omega
          have e2 : decide (a.States[j].Switch ≤ 65535) = true := by simp; omega
          have e3 : first a.States j = true := by simpa using h3
          rw [e1, e2, e3, Bool.true_and, Bool.true_and, Bool.true_and]
          refine loopO_inl (by rw [hg, if_neg h1, if_neg h2, if_neg h3]) ?_
          have := loop8b a a.States[j] (j : Int) b1 b2 b3 (j : Int) hx (some ((a.States.drop (j + 1)).all (okS a.States.length))) (by
            have hn := ih (j + 1) (by omega) (by omega) hp
            have hf1 : first a.States (j + 1) = true := by simp [first]
            rw [hf1, Bool.true_and] at hn
            refine loopO_inl (s' := .h0 a ((j + 1 : Nat) : Int)) ?_ hn
            unfold g8
            rw [opt_f (by simp), opt_ret, wsucc (by have := hs.1; omega)]) a.States[j].Next.length 0 (by omega) (by omega) (by simp [prev])
          rw [show ((0 : Nat) : Int) = 0 from rfl, List.drop_zero, show prev a.States[j].Next 0 = 0 by simp [prev]] at this
          rw [this]
          by_cases hc : chain a.States.length 0 a.States[j].Next = true
          · rw [if_pos hc, hc, Bool.true_and]
          · rw [if_neg hc]
            rw [Bool.not_eq_true] at hc
            rw [hc]; rfl

theorem right8 (a : Nfa) (hs : Small a) : f8 a = some (rightB a) := by
  unfold f8 rightB
  by_cases h0 : a.States.length = 0
  · have : a.States = [] := List.length_eq_zero_iff.1 h0
    refine runO_inr ?_
    unfold s8
    rw [opt_t (by simp [h0]), opt_ret]
    simp [this, fst0]
  · by_cases h1 : (64 : Int) < a.States.length
    · refine runO_inr ?_
      unfold s8
      rw [opt_f (by simp; omega), opt_t (by simpa using h1), opt_ret]
      have : decide (a.States.length ≤ 64) = false := by simp; omega
      rw [this]; rfl
    · have hd : decide (a.States.length ≤ 64) = true := by simp; omega
      refine runO_inl (s' := .h0 a ((0 : Nat) : Int)) ?_ ?_
      · unfold s8
        rw [opt_f (by simp; omega), opt_f (by simpa using h1), opt_ret]; rfl
      · rw [loop8 a hs a.States.length 0 (by omega) (by omega) (by omega), hd, List.drop_zero]
        simp [first]

end Go.Proofs.Nfa

/-
  To which states one goes: the program's set of bits and the document's rising row are the same.
-/
namespace Go.Proofs.Nfa
open Go Go.Ab Go.ChangeShapes
set_option linter.unusedVariables false
set_option linter.unusedSimpArgs false
set_option maxRecDepth 100000

/-! ### rising rows -/

def Up (l : List Int) : Prop := l.Pairwise (· < ·)

theorem up_ext : ∀ {a b : List Int}, Up a → Up b → (∀ x, x ∈ a ↔ x ∈ b) → a = b := by
  intro a
  induction a with
  | nil =>
    intro b _ _ h
    cases b with
    | nil => rfl
    | cons y b => exact absurd ((h y).2 (by simp)) (by simp)
  | cons x a ih =>
    intro b ha hb h
    cases b with
    | nil => exact absurd ((h x).1 (by simp)) (by simp)
    | cons y b =>
      have ha := List.pairwise_cons.1 ha
      have hb := List.pairwise_cons.1 hb
      have e : x = y := by
        rcases List.mem_cons.1 ((h x).1 (by simp)) with e | e
        · exact e
        · rcases List.mem_cons.1 ((h y).2 (by simp)) with e' | e'
          · exact e'.symm
          · have := hb.1 x e; have := ha.1 y e'; omega
      subst e
      congr 1
      refine ih ha.2 hb.2 fun z => ⟨fun hz => ?_, fun hz => ?_⟩
      · rcases List.mem_cons.1 ((h z).1 (by simp [hz])) with e | e
        · have := ha.1 z hz; omega
        · exact e
      · rcases List.mem_cons.1 ((h z).2 (by simp [hz])) with e | e
        · have := hb.1 z hz; omega
        · exact e

/-- One number more in a rising row, in its place. -/
def ins (n : Int) : List Int → List Int
  | [] => [n]
  | x :: l => if x = n then x :: l else if n < x then n :: x :: l else x :: ins n l

theorem ins_mem {n x : Int} : ∀ {l : List Int}, x ∈ ins n l ↔ x = n ∨ x ∈ l := by
  intro l
  induction l with
  | nil => simp [ins]
  | cons y l ih =>
    rw [ins]
    split
    · rename_i h; subst h
      simp
    · split
      · simp
      · simp only [List.mem_cons, ih]
        constructor
        · rintro (h | h | h) <;> simp [h]
        · rintro (h | h | h) <;> simp [h]

theorem ins_up {n : Int} : ∀ {l : List Int}, Up l → Up (ins n l) := by
  intro l
  induction l with
  | nil => intro _; simp [ins, Up]
  | cons y l ih =>
    intro h
    have h := List.pairwise_cons.1 h
    rw [ins]
    split
    · exact List.pairwise_cons.2 h
    · split
      · rename_i h1 h2
        refine List.pairwise_cons.2 ⟨fun z hz => ?_, List.pairwise_cons.2 h⟩
        rcases List.mem_cons.1 hz with e | e
        · subst e; exact h2
        · have := h.1 z e; omega
      · rename_i h1 h2
        refine List.pairwise_cons.2 ⟨fun z hz => ?_, ih h.2⟩
        rcases ins_mem.1 hz with e | e
        · subst e; omega
        · exact h.1 z e

def sorted (l : List Int) : List Int := l.foldl (fun a t => ins t a) []

theorem foldl_up : ∀ (l a : List Int), Up a → Up (l.foldl (fun a t => ins t a) a) := by
  intro l
  induction l with
  | nil => intro a h; exact h
  | cons x l ih => intro a h; exact ih _ (ins_up h)
theorem foldl_mem {x : Int} : ∀ (l a : List Int), x ∈ l.foldl (fun a t => ins t a) a ↔ x ∈ a ∨ x ∈ l := by
  intro l
  induction l with
  | nil => intro a; simp
  | cons y l ih =>
    intro a
    rw [List.foldl_cons, ih, ins_mem, List.mem_cons]
    constructor
    · rintro ((h | h) | h) <;> simp [h]
    · rintro (h | h | h) <;> simp [h]
theorem sorted_up (l : List Int) : Up (sorted l) := foldl_up l [] List.Pairwise.nil
theorem sorted_mem {x : Int} {l : List Int} : x ∈ sorted l ↔ x ∈ l := by unfold sorted; rw [foldl_mem]; simp

/-- The numbers of the bits below k that a number has. -/
def bitsL (m k : Nat) : List Int := ((List.range k).filter m.testBit).map Int.ofNat
theorem bitsL_succ (m k : Nat) : bitsL m (k + 1) = bitsL m k ++ (if m.testBit k then [(k : Int)] else []) := by
  unfold bitsL
  rw [List.range_succ, List.filter_append, List.map_append]
  congr 1
  by_cases h : m.testBit k = true
  · simp [h]
  · simp at h; simp [h]
theorem bitsL_mem {m k : Nat} {x : Int} : x ∈ bitsL m k ↔ 0 ≤ x ∧ x.toNat < k ∧ m.testBit x.toNat = true := by
  unfold bitsL
  simp only [List.mem_map, List.mem_filter, List.mem_range]
  constructor
  · rintro ⟨a, ⟨h1, h2⟩, rfl⟩
    exact ⟨by simp, by simpa using h1, by simpa using h2⟩
  · rintro ⟨h1, h2, h3⟩
    exact ⟨x.toNat, ⟨h2, h3⟩, by simp; omega⟩
theorem bitsL_up (m k : Nat) : Up (bitsL m k) := by
  unfold Up bitsL
  rw [List.pairwise_map]
  refine List.Pairwise.imp (R := (· < ·)) (fun h => ?_) ?_
  · simpa using h
  · exact List.Pairwise.filter _ List.pairwise_lt_range
theorem bitsL_len (m k : Nat) : (bitsL m k).length ≤ k := by
  unfold bitsL
  rw [List.length_map]
  exact Nat.le_trans (List.length_filter_le _ _) (by simp)

/-- A rising row within bounds is short. -/
theorem up_len : ∀ (l : List Int) (lo : Int) (k : Nat), Up l → (∀ x ∈ l, lo ≤ x ∧ x < lo + k) → l.length ≤ k := by
  intro l
  induction l with
  | nil => intro _ _ _ _; simp
  | cons x l ih =>
    intro lo k h hb
    have h := List.pairwise_cons.1 h
    have hx := hb x (by simp)
    have hk : 0 < k := by omega
    have := ih (lo + 1) (k - 1) h.2 (fun y hy => by have := h.1 y hy; have := hb y (by simp [hy]); omega)
    simp; omega

/-! ### with -/

theorem loop17d (l : List Int) (n : Int) (hl : l.length ≤ 1000000) : ∀ (k i : Nat) (o : List Int), l.length - i = k → i ≤ l.length → o.length = i + 1 → (∀ x ∈ l.drop i, n < x) → loopO g17 (.h0 l n (i : Int) true o) = some (o ++ l.drop i) := by
  intro k
  induction k with
  | zero =>
    intro i o hk hi ho _
    have : i = l.length := by omega
    subst this
    rw [dropN (Nat.le_refl _)]
    refine loopO_inr ?_
    unfold g17
    rw [opt_f (by simp), opt_f (by rfl), opt_chk (by omega), opt_ret]
    simp
  | succ k ih =>
    intro i o hk hi ho hn
    have hlt : i < l.length := by omega
    have hx : n < l[i] := hn _ (by rw [dropE hlt]; exact List.mem_cons_self)
    rw [dropE hlt]
    refine loopO_inl (s' := .h0 l n ((i + 1 : Nat) : Int) true (o ++ [l[i]])) ?_ ?_
    · unfold g17
      rw [opt_t (by simpa using (by exact_mod_cast hlt : (i : Int) < (l.length : Int))), opt_chk (by omega), opt_get (getO hlt), opt_f (by simp; omega), opt_f (by rfl), opt_chk (by omega), opt_get (getO hlt), opt_chk (by simp), opt_chk (by simp; omega), opt_chk (by trivial), wsucc (by omega), opt_ret]
      simp
    · rw [ih (i + 1) (o ++ [l[i]]) (by omega) (by omega) (by simp [ho]) (fun x hx => hn x (by rw [dropE hlt]; exact List.mem_cons_of_mem _ hx))]
      simp

theorem loop17 (l : List Int) (n : Int) (hu : Up l) (hl : l.length ≤ 1000000) : ∀ (k i : Nat), l.length - i = k → i ≤ l.length → loopO g17 (.h0 l n (i : Int) false (l.take i)) = some (l.take i ++ ins n (l.drop i)) := by
  intro k
  induction k with
  | zero =>
    intro i hk hi
    have : i = l.length := by omega
    subst this
    rw [dropN (Nat.le_refl _)]
    refine loopO_inr ?_
    unfold g17
    rw [opt_f (by simp), opt_t (by rfl), opt_chk (by simp), opt_chk (by simp; omega), opt_chk (by omega), opt_ret, ins, List.take_length]
    simp only [List.drop_zero, List.take_succ_cons, List.take_zero, List.take_length]
  | succ k ih =>
    intro i hk hi
    have hlt : i < l.length := by omega
    have htl : (l.take i).length = i := by simp; omega
    rw [dropE hlt, ins]
    have e0 : (g17 (.h0 l n (i : Int) false (l.take i))).opt = if l[i] = n then some (.inr l) else if n < l[i] then some (.inl (.h0 l n ((i + 1 : Nat) : Int) true (l.take i ++ [n] ++ [l[i]]))) else some (.inl (.h0 l n ((i + 1 : Nat) : Int) false (l.take i ++ [l[i]]))) := by
      unfold g17
      rw [opt_t (by simpa using (by exact_mod_cast hlt : (i : Int) < (l.length : Int))), opt_chk (by omega), opt_get (getO hlt), opt_ite]
      simp only [decide_eq_true_eq]
      split
      · rfl
      · rw [opt_t (by rfl), opt_chk (by omega), opt_get (getO hlt), opt_ite]
        simp only [decide_eq_true_eq]
        split
        · rw [opt_chk (by simp), opt_chk (by simp; omega), opt_chk (by omega), opt_get (getO hlt), opt_chk (by simp), opt_chk (by simp; omega), opt_chk (by trivial), wsucc (by omega), opt_ret]
          rfl
        · rw [opt_chk (by omega), opt_get (getO hlt), opt_chk (by simp), opt_chk (by simp; omega), opt_chk (by trivial), wsucc (by omega), opt_ret]
          rfl
    by_cases h1 : l[i] = n
    · rw [if_pos h1, loopO_inr (x := l) (by rw [e0, if_pos h1])]
      rw [← dropE hlt, List.take_append_drop]
    · rw [if_neg h1]
      by_cases h2 : n < l[i]
      · rw [if_pos h2]
        refine loopO_inl (by rw [e0, if_neg h1, if_pos h2]) ?_
        have hall : ∀ x ∈ l.drop (i + 1), n < x := by
          intro x hx
          have : Up (l.drop i) := List.Pairwise.drop hu
          rw [dropE hlt] at this
          have := (List.pairwise_cons.1 this).1 x hx
          omega
        by_cases hi1 : i + 1 ≤ l.length
        · -- the row so far is one longer than the place
          have := loop17d l n hl _ (i + 1) (l.take i ++ [n] ++ [l[i]]) rfl hi1 (by simp; omega) hall
          rw [this]; simp
        · omega
      · rw [if_neg h2]
        refine loopO_inl (by rw [e0, if_neg h1, if_neg h2]) ?_
        have e1 : l.take i ++ [l[i]] = l.take (i + 1) := by rw [List.take_succ_eq_append_getElem hlt]
        rw [e1, ih (i + 1) (by omega) (by omega), ← e1, List.append_assoc]
        rfl

theorem with17 {l : List Int} (n : Int) (hu : Up l) (hl : l.length ≤ 1000000) : f17 l n = some (ins n l) := by
  unfold f17
  refine runO_inl (s' := .h0 l n ((0 : Nat) : Int) false (l.take 0)) ?_ ?_
  · unfold s17
    rw [opt_chk (by rfl), opt_ret]; rfl
  · rw [loop17 l n hu hl _ 0 rfl (by omega)]; simp

/-! ### where one goes -/

/-- Is a state gone to by a number? -/
def okT (a : Nfa) (n t : Int) : Bool := match a.States[t.toNat]? with
  | some y => decide (y.Switch = 0) || decide (y.Switch = n)
  | none => false

/-- The states to which one goes from one. -/
def goes (a : Nfa) (n s : Int) : List Int := if s < 0 then [] else match a.States[s.toNat]? with
  | some y => y.Next.filter (okT a n)
  | none => []

def stepL (a : Nfa) (set : List Int) (n : Int) : List Int := sorted (set.flatMap (goes a n))

/-- Every number that one goes to is a state's. -/
def InB (a : Nfa) : Prop := ∀ y ∈ a.States, ∀ t ∈ y.Next, 1 ≤ t ∧ t < (a.States.length : Int)

theorem chain_in {n : Int} : ∀ {l : List Int} {last : Int}, chain n last l = true → ∀ t ∈ l, last < t ∧ t < n := by
  intro l
  induction l with
  | nil => intro last _ t ht; simp at ht
  | cons x l ih =>
    intro last h t ht
    simp only [chain, Bool.and_eq_true, decide_eq_true_eq] at h
    rcases List.mem_cons.1 ht with e | e
    · subst e; exact ⟨h.1, h.2.1⟩
    · have := ih h.2.2 t e; omega

theorem right_in {a : Nfa} (h : rightB a = true) : 1 ≤ a.States.length ∧ a.States.length ≤ 64 ∧ InB a := by
  simp only [rightB, Bool.and_eq_true, decide_eq_true_eq] at h
  refine ⟨?_, h.1, fun y hy t ht => ?_⟩
  · have := h.2.1
    generalize a.States = l at this
    cases l with
    | nil => simp [fst0] at this
    | cons s l => simp
  · have := List.all_eq_true.1 h.2.2 y hy
    simp only [okS, Bool.and_eq_true] at this
    have := chain_in this.2.2 t ht
    omega

theorem goes_in {a : Nfa} (h : InB a) {n s t : Int} (ht : t ∈ goes a n s) : 1 ≤ t ∧ t < (a.States.length : Int) := by
  unfold goes at ht
  split at ht
  · simp at ht
  · split at ht
    · rename_i y hy
      exact h y (List.mem_of_getElem? hy) t (List.mem_filter.1 ht).1
    · simp at ht

theorem step_in {a : Nfa} (h : InB a) {n : Int} {set : List Int} {t : Int} (ht : t ∈ stepL a set n) : 1 ≤ t ∧ t < (a.States.length : Int) := by
  obtain ⟨s, _, hs⟩ := List.mem_flatMap.1 (sorted_mem.1 ht)
  exact goes_in h hs

theorem step_len {a : Nfa} (h : rightB a = true) {n : Int} {set : List Int} : (stepL a set n).length ≤ 64 := by
  obtain ⟨h1, h2, h3⟩ := right_in h
  refine up_len _ 0 64 (sorted_up _) fun x hx => ?_
  have := step_in h3 hx
  omega

theorem ins_len {a : Nfa} (h : rightB a = true) {o : List Int} (hu : Up o) (hb : ∀ t ∈ o, 1 ≤ t ∧ t < (a.States.length : Int)) : o.length ≤ 1000000 := by
  obtain ⟨h1, h2, h3⟩ := right_in h
  have := up_len o 0 64 hu fun x hx => by have := hb x hx; omega
  omega

/-- A loop of the document's: what one goes to from one state. -/
theorem loop10b (a : Nfa) (hs : Small a) (hR : rightB a = true) (set : List Int) (n : Int) (y : NfaState) (hy : y ∈ a.States) (s j : Int) (hj : 0 ≤ j) :
    ∀ (k i : Nat) (o : List Int), y.Next.length - i = k → i ≤ y.Next.length → Up o → (∀ t ∈ o, 1 ≤ t ∧ t < (a.States.length : Int)) →
      loopO g10 (.h1 a set n y s j j (i : Int) o) = loopO g10 (.h1 a set n y s j j (y.Next.length : Int) (((y.Next.drop i).filter (okT a n)).foldl (fun a t => ins t a) o)) := by
  intro k
  induction k with
  | zero =>
    intro i o hk hi _ _
    have : i = y.Next.length := by omega
    subst this
    rw [dropN (Nat.le_refl _)]; rfl
  | succ k ih =>
    intro i o hk hi hu hb
    have hlt : i < y.Next.length := by omega
    have hin := (right_in hR).2.2 y hy y.Next[i] (List.getElem_mem hlt)
    have ht : y.Next[i].toNat < a.States.length := by omega
    have hyl := hs.2 y hy
    rw [dropE hlt]
    have hok : okT a n y.Next[i] = (decide (a.States[y.Next[i].toNat].Switch = 0) || decide (a.States[y.Next[i].toNat].Switch = n)) := by
      simp [okT, ht]
    have hw := with17 y.Next[i] hu (ins_len hR hu hb)
    have hg : (g10 (.h1 a set n y s j j (i : Int) o)).opt = some (.inl (.h1 a set n y s j j ((i + 1 : Nat) : Int) (if okT a n y.Next[i] = true then ins y.Next[i] o else o))) := by
      unfold g10
      rw [opt_t (by simpa using (by exact_mod_cast hlt : (i : Int) < (y.Next.length : Int))), opt_chk (by omega), opt_get (getO hlt), opt_chk (by omega), opt_get (List.getElem?_eq_getElem ht), hok]
      by_cases h1 : a.States[y.Next[i].toNat].Switch = 0
      · rw [opt_t (by simpa using h1), opt_chk (by omega), opt_get (getO hlt), opt_get hw, wsucc (by omega), opt_ret, if_pos (by simp [h1])]
      · rw [opt_f (by simpa using h1)]
        by_cases h2 : a.States[y.Next[i].toNat].Switch = n
        · rw [opt_t (by simpa using h2), opt_chk (by omega), opt_get (getO hlt), opt_get hw, wsucc (by omega), opt_ret, if_pos (by simp [h2])]
        · rw [opt_f (by simpa using h2), wsucc (by omega), opt_ret, if_neg (by simp [h1, h2])]
    by_cases hc : okT a n y.Next[i] = true
    · rw [if_pos hc] at hg
      rw [loopO_inl hg (ih (i + 1) _ (by omega) (by omega) (ins_up hu) (fun t ht => by rcases ins_mem.1 ht with e | e; exact e ▸ hin; exact hb t e)), List.filter_cons_of_pos hc]
      rfl
    · rw [if_neg hc] at hg
      rw [loopO_inl hg (ih (i + 1) _ (by omega) (by omega) hu hb), List.filter_cons_of_neg hc]

theorem loop10 (a : Nfa) (hs : Small a) (hR : rightB a = true) (set : List Int) (hset : set.length < 9223372036854775807) (n : Int) :
    ∀ (k i : Nat) (o : List Int), set.length - i = k → i ≤ set.length → Up o → (∀ t ∈ o, 1 ≤ t ∧ t < (a.States.length : Int)) →
      loopO g10 (.h0 a set n (i : Int) o) = some (((set.drop i).flatMap (goes a n)).foldl (fun a t => ins t a) o) := by
  intro k
  induction k with
  | zero =>
    intro i o hk hi _ _
    have : i = set.length := by omega
    subst this
    rw [dropN (Nat.le_refl _)]
    refine loopO_inr ?_
    unfold g10
    rw [opt_f (by simp), opt_ret]; rfl
  | succ k ih =>
    intro i o hk hi hu hb
    have hlt : i < set.length := by omega
    rw [flatE _ hlt, List.foldl_append]
    have hc : decide ((i : Int) < (set.length : Int)) = true := by simpa using hlt
    by_cases h1 : set[i] < 0
    · have hgo : goes a n set[i] = [] := by simp [goes, h1]
      rw [hgo]
      refine loopO_inl ?_ (ih (i + 1) o (by omega) (by omega) hu hb)
      unfold g10
      rw [opt_t hc, opt_chk (by omega), opt_get (getO hlt), opt_t (by simpa using h1), opt_ret, wsucc (by omega)]
    · by_cases h2 : (a.States.length : Int) ≤ set[i]
      · have hgo : goes a n set[i] = [] := by
          have : a.States[set[i].toNat]? = none := by rw [List.getElem?_eq_none_iff]; omega
          simp [goes, this]
        rw [hgo]
        refine loopO_inl ?_ (ih (i + 1) o (by omega) (by omega) hu hb)
        unfold g10
        rw [opt_t hc, opt_chk (by omega), opt_get (getO hlt), opt_f (by simpa using h1), opt_chk (by omega), opt_get (getO hlt), opt_t (by simpa using h2), opt_ret, wsucc (by omega)]
      · have ht : set[i].toNat < a.States.length := by omega
        have hgo : goes a n set[i] = (a.States[set[i].toNat].Next.filter (okT a n)) := by simp [goes, h1, ht]
        have hm := List.getElem_mem ht
        rw [hgo]
        refine loopO_inl (s' := .h1 a set n a.States[set[i].toNat] set[i] (i : Int) (i : Int) ((0 : Nat) : Int) o) ?_ ?_
        · unfold g10
          rw [opt_t hc, opt_chk (by omega), opt_get (getO hlt), opt_f (by simpa using h1), opt_chk (by omega), opt_get (getO hlt), opt_f (by simpa using h2), opt_chk (by omega), opt_get (getO hlt), opt_chk (by omega), opt_get (List.getElem?_eq_getElem ht), opt_ret]
          rfl
        · rw [loop10b a hs hR set n _ hm set[i] (i : Int) (by omega) _ 0 o rfl (by omega) hu hb, List.drop_zero]
          refine loopO_inl (s' := .h0 a set n ((i + 1 : Nat) : Int) _) ?_ (ih (i + 1) _ (by omega) (by omega) (foldl_up _ _ hu) (fun t ht => ?_))
          · unfold g10
            rw [opt_f (by simp), opt_ret, wsucc (by omega)]
          · rcases (foldl_mem _ _).1 ht with e | e
            · exact hb t e
            · exact (right_in hR).2.2 _ hm t (List.mem_filter.1 e).1

theorem step10 (a : Nfa) (hs : Small a) (set : List Int) (hset : set.length < 9223372036854775807) (n : Int) : f10 a set n = some (if rightB a = true then stepL a set n else []) := by
  unfold f10
  by_cases h : rightB a = true
  · rw [if_pos h]
    refine runO_inl (s' := .h0 a set n ((0 : Nat) : Int) []) ?_ ?_
    · unfold s10
      rw [opt_get (right8 a hs), opt_f (by simp [h]), opt_ret]; rfl
    · rw [loop10 a hs h set hset n _ 0 [] rfl (by omega) List.Pairwise.nil (by simp), List.drop_zero]; rfl
  · rw [if_neg h]
    refine runO_inr ?_
    unfold s10
    rw [opt_get (right8 a hs), opt_t (by simp [h]), opt_ret]

/-! ### the program's -/

theorem orbit {m t : Nat} (hm : m < 2 ^ 64) (ht : t < 64) : IntKind.u64.wrap (↑(BitVec.ofInt 64 (m : Int) ||| BitVec.ofInt 64 (IntKind.u64.wrap (1 * 2 ^ Min.min (t : Int).toNat 64))).toNat : Int) = ((m ||| 2 ^ t : Nat) : Int) := by
  have e1 : Min.min (t : Int).toNat 64 = t := by simp; omega
  have h2 : (2 : Nat) ^ t < 2 ^ 64 := Nat.pow_lt_pow_right (by omega) ht
  have e2 : (1 * 2 ^ t : Int) = ((2 ^ t : Nat) : Int) := by simp
  have e4 : IntKind.u64.wrap ((2 ^ t : Nat) : Int) = ((2 ^ t : Nat) : Int) := by
    generalize 2 ^ t = p at h2
    exact wu64 (by omega) (by omega)
  rw [e1, e2, e4]
  have e3 : (BitVec.ofInt 64 (m : Int) ||| BitVec.ofInt 64 ((2 ^ t : Nat) : Int)).toNat = m ||| 2 ^ t := by
    rw [BitVec.ofInt_natCast, BitVec.ofInt_natCast, BitVec.toNat_or, BitVec.toNat_ofNat, BitVec.toNat_ofNat, Nat.mod_eq_of_lt hm, Nat.mod_eq_of_lt h2]
  have h3 : m ||| 2 ^ t < 2 ^ 64 := Nat.or_lt_two_pow hm h2
  rw [e3, wu64 (by omega) (by omega)]

theorem bittest {m k : Nat} (hm : m < 2 ^ 64) (hk : k < 64) : decide (IntKind.u64.wrap (↑(BitVec.ofInt 64 ((m : Int).fdiv (2 ^ Min.min (k : Int).toNat 64)) &&& BitVec.ofInt 64 1).toNat : Int) = 1) = m.testBit k := by
  have e1 : Min.min (k : Int).toNat 64 = k := by simp; omega
  rw [e1, fdivp]
  have e2 : (m : Int) / 2 ^ k = ((m / 2 ^ k : Nat) : Int) := by simp
  have h1 : m / 2 ^ k < 2 ^ 64 := Nat.lt_of_le_of_lt (Nat.div_le_self _ _) hm
  have e3 : (BitVec.ofInt 64 ((m / 2 ^ k : Nat) : Int) &&& BitVec.ofInt 64 1).toNat = m / 2 ^ k % 2 := by
    have : BitVec.ofInt 64 1 = BitVec.ofNat 64 1 := rfl
    rw [this, BitVec.ofInt_natCast, BitVec.toNat_and, BitVec.toNat_ofNat, BitVec.toNat_ofNat, Nat.mod_eq_of_lt h1]
    exact Nat.and_one_is_mod _
  rw [e2, e3, wu64 (by omega) (by omega), Nat.testBit_eq_decide_div_mod_eq]
  have : ((m / 2 ^ k % 2 : Nat) : Int) = 1 ↔ m / 2 ^ k % 2 = 1 := by omega
  simp only [this]

def mark (m : Nat) (t : Int) : Nat := m ||| 2 ^ t.toNat
def mask (l : List Int) (m : Nat) : Nat := l.foldl mark m

theorem mask_lt : ∀ (l : List Int) (m : Nat), m < 2 ^ 64 → (∀ t ∈ l, 0 ≤ t ∧ t < 64) → mask l m < 2 ^ 64 := by
  intro l
  induction l with
  | nil => intro m h _; exact h
  | cons t l ih =>
    intro m h hb
    have := hb t (by simp)
    exact ih _ (Nat.or_lt_two_pow h (Nat.pow_lt_pow_right (by omega) (by omega))) fun t ht => hb t (by simp [ht])

theorem mask_bit {k : Nat} : ∀ (l : List Int) (m : Nat), (∀ t ∈ l, 0 ≤ t) → ((mask l m).testBit k = true ↔ m.testBit k = true ∨ (k : Int) ∈ l) := by
  intro l
  induction l with
  | nil => intro m _; simp [mask]
  | cons t l ih =>
    intro m hb
    have h0 := hb t (by simp)
    show (mask l (mark m t)).testBit k = true ↔ _
    rw [ih _ fun t ht => hb t (by simp [ht]), mark, Nat.testBit_or, Nat.testBit_two_pow, List.mem_cons]
    have : (k : Int) = t ↔ t.toNat = k := by omega
    simp [this, or_assoc]

theorem mask_list {l : List Int} (hb : ∀ t ∈ l, 0 ≤ t ∧ t < 64) : bitsL (mask l 0) 64 = sorted l := by
  refine up_ext (bitsL_up _ _) (sorted_up _) fun x => ?_
  rw [bitsL_mem, sorted_mem]
  constructor
  · rintro ⟨h1, h2, h3⟩
    rcases (mask_bit l 0 fun t ht => (hb t ht).1).1 h3 with h | h
    · simp at h
    · have : ((x.toNat : Nat) : Int) = x := by omega
      rwa [this] at h
  · intro h
    have := hb x h
    refine ⟨this.1, by omega, (mask_bit l 0 fun t ht => (hb t ht).1).2 (.inr ?_)⟩
    have : ((x.toNat : Nat) : Int) = x := by omega
    rwa [this]

theorem loop16c (m : Nat) (hm : m < 2 ^ 64) : ∀ (k i : Nat), 64 - i = k → i ≤ 64 → loopO g16 (.h2 (i : Int) (bitsL m i) (m : Int)) = some (bitsL m 64) := by
  intro k
  induction k with
  | zero =>
    intro i hk hi
    have : i = 64 := by omega
    subst this
    refine loopO_inr ?_
    unfold g16
    rw [opt_f (by rfl), opt_chk (by omega), opt_ret]
    simp
  | succ k ih =>
    intro i hk hi
    have hlt : i < 64 := by omega
    have hlen := bitsL_len m i
    refine loopO_inl ?_ (ih (i + 1) (by omega) (by omega))
    rw [bitsL_succ]
    unfold g16
    rw [opt_t (by simp; omega), opt_chk (by omega), bittest hm hlt]
    by_cases h : m.testBit i = true
    · rw [opt_t h, opt_chk (by simp), opt_chk (by simp; omega), opt_chk (by trivial), opt_ret, wsucc (by omega), if_pos h]
      simp
    · rw [opt_f (by simpa using h), opt_chk (by trivial), opt_ret, wsucc (by omega), if_neg h, List.append_nil]

theorem loop16b (a : Nfa) (hs : Small a) (hR : rightB a = true) (set : List Int) (n : Int) (y : NfaState) (hy : y ∈ a.States) (s j : Int) :
    ∀ (k i m : Nat), y.Next.length - i = k → i ≤ y.Next.length → m < 2 ^ 64 →
      loopO g16 (.h1 a set n y s j (i : Int) (m : Int)) = loopO g16 (.h1 a set n y s j (y.Next.length : Int) ((mask ((y.Next.drop i).filter (okT a n)) m : Nat) : Int)) := by
  intro k
  induction k with
  | zero =>
    intro i m hk hi _
    have : i = y.Next.length := by omega
    subst this
    rw [dropN (Nat.le_refl _)]; rfl
  | succ k ih =>
    intro i m hk hi hm
    have hlt : i < y.Next.length := by omega
    obtain ⟨h64a, h64, hB⟩ := right_in hR
    have hin := hB y hy y.Next[i] (List.getElem_mem hlt)
    have ht : y.Next[i].toNat < a.States.length := by omega
    have hyl := hs.2 y hy
    rw [dropE hlt]
    have hok : okT a n y.Next[i] = (decide (a.States[y.Next[i].toNat].Switch = 0) || decide (a.States[y.Next[i].toNat].Switch = n)) := by
      simp [okT, ht]
    have hor := orbit (t := y.Next[i].toNat) hm (by omega)
    have hcast : ((y.Next[i].toNat : Nat) : Int) = y.Next[i] := by omega
    rw [hcast] at hor
    have hg : (g16 (.h1 a set n y s j (i : Int) (m : Int))).opt = some (.inl (.h1 a set n y s j ((i + 1 : Nat) : Int) ((if okT a n y.Next[i] = true then mark m y.Next[i] else m : Nat) : Int))) := by
      unfold g16
      rw [opt_t (by simpa using (by exact_mod_cast hlt : (i : Int) < (y.Next.length : Int))), opt_chk (by omega), opt_get (getO hlt), opt_chk (by omega), opt_get (List.getElem?_eq_getElem ht), hok, hor]
      by_cases h1 : a.States[y.Next[i].toNat].Switch = 0
      · rw [opt_t (by simpa using h1), opt_chk (by omega), wsucc (by omega), opt_ret, if_pos (by simp [h1])]; rfl
      · rw [opt_f (by simpa using h1)]
        by_cases h2 : a.States[y.Next[i].toNat].Switch = n
        · rw [opt_t (by simpa using h2), opt_chk (by omega), wsucc (by omega), opt_ret, if_pos (by simp [h2])]; rfl
        · rw [opt_f (by simpa using h2), wsucc (by omega), opt_ret, if_neg (by simp [h1, h2])]
    by_cases hc : okT a n y.Next[i] = true
    · rw [if_pos hc] at hg
      rw [loopO_inl hg (ih (i + 1) _ (by omega) (by omega) (Nat.or_lt_two_pow hm (Nat.pow_lt_pow_right (by omega) (by omega)))), List.filter_cons_of_pos hc]
      rfl
    · rw [if_neg hc] at hg
      rw [loopO_inl hg (ih (i + 1) _ (by omega) (by omega) hm), List.filter_cons_of_neg hc]

theorem goes64 {a : Nfa} (hR : rightB a = true) {n s t : Int} (ht : t ∈ goes a n s) : 0 ≤ t ∧ t < 64 := by
  obtain ⟨h1, h2, h3⟩ := right_in hR
  have := goes_in h3 ht
  omega

theorem loop16 (a : Nfa) (hs : Small a) (hR : rightB a = true) (set : List Int) (hset : set.length < 9223372036854775807) (n : Int) :
    ∀ (k i m : Nat), set.length - i = k → i ≤ set.length → m < 2 ^ 64 →
      loopO g16 (.h0 a set n (i : Int) (m : Int)) = some (bitsL (mask ((set.drop i).flatMap (goes a n)) m) 64) := by
  intro k
  induction k with
  | zero =>
    intro i m hk hi hm
    have : i = set.length := by omega
    subst this
    rw [dropN (Nat.le_refl _)]
    refine loopO_inl (s' := .h2 ((0 : Nat) : Int) (bitsL m 0) (m : Int)) ?_ (loop16c m hm _ 0 rfl (by omega))
    unfold g16
    rw [opt_f (by simp), opt_chk (by rfl), opt_ret]; rfl
  | succ k ih =>
    intro i m hk hi hm
    have hlt : i < set.length := by omega
    rw [flatE _ hlt, mask, List.foldl_append]
    have hc : decide ((i : Int) < (set.length : Int)) = true := by simpa using hlt
    by_cases h1 : set[i] < 0
    · have hgo : goes a n set[i] = [] := by simp [goes, h1]
      rw [hgo]
      refine loopO_inl ?_ (ih (i + 1) m (by omega) (by omega) hm)
      unfold g16
      rw [opt_t hc, opt_chk (by omega), opt_get (getO hlt), opt_t (by simpa using h1), opt_ret, wsucc (by omega)]
    · by_cases h2 : (a.States.length : Int) ≤ set[i]
      · have hgo : goes a n set[i] = [] := by
          have : a.States[set[i].toNat]? = none := by rw [List.getElem?_eq_none_iff]; omega
          simp [goes, this]
        rw [hgo]
        refine loopO_inl ?_ (ih (i + 1) m (by omega) (by omega) hm)
        unfold g16
        rw [opt_t hc, opt_chk (by omega), opt_get (getO hlt), opt_f (by simpa using h1), opt_t (by simpa using h2), opt_ret, wsucc (by omega)]
      · have ht : set[i].toNat < a.States.length := by omega
        have hgo : goes a n set[i] = (a.States[set[i].toNat].Next.filter (okT a n)) := by simp [goes, h1, ht]
        have hm' := List.getElem_mem ht
        refine loopO_inl (s' := .h1 a set n a.States[set[i].toNat] set[i] (i : Int) ((0 : Nat) : Int) (m : Int)) ?_ ?_
        · unfold g16
          rw [opt_t hc, opt_chk (by omega), opt_get (getO hlt), opt_f (by simpa using h1), opt_f (by simpa using h2), opt_chk (by omega), opt_get (List.getElem?_eq_getElem ht), opt_ret]
          rfl
        · rw [loop16b a hs hR set n _ hm' set[i] (i : Int) _ 0 m rfl (by omega) hm, List.drop_zero, ← hgo]
          refine loopO_inl (s' := .h0 a set n ((i + 1 : Nat) : Int) _) ?_ (ih (i + 1) _ (by omega) (by omega) (mask_lt _ _ hm fun t ht => goes64 hR ht))
          unfold g16
          rw [opt_f (by simp), opt_ret, wsucc (by omega)]; rfl

theorem step16 (a : Nfa) (hs : Small a) (hR : rightB a = true) (set : List Int) (hset : set.length < 9223372036854775807) (n : Int) : f16 a set n = some (stepL a set n) := by
  unfold f16
  refine runO_inl (s' := .h0 a set n ((0 : Nat) : Int) ((0 : Nat) : Int)) ?_ ?_
  · unfold s16
    rw [opt_ret]; rfl
  · rw [loop16 a hs hR set hset n _ 0 0 rfl (by omega) (by omega), List.drop_zero, mask_list]
    · rfl
    · intro t ht
      obtain ⟨s, _, h⟩ := List.mem_flatMap.1 ht
      exact goes64 hR h

end Go.Proofs.Nfa

/-
  Which sets are ends; which words states have.
-/
namespace Go.Proofs.Nfa
open Go Go.Ab Go.ChangeShapes
set_option linter.unusedVariables false
set_option linter.unusedSimpArgs false
set_option maxRecDepth 100000

/-! ### ends -/

def endB (a : Nfa) (s : Int) : Bool := !decide (s < 0) && match a.States[s.toNat]? with
  | some y => y.Ends
  | none => false
def endsL (a : Nfa) (set : List Int) : Bool := set.any (endB a)

theorem loop18b (a : Nfa) (hs : Small a) (set : List Int) (s j : Int) (r : Option Bool) (hr : loopO g18 (.h1 a set s (a.States.length : Int) j) = r) :
    ∀ (k i : Nat), a.States.length - i = k → i ≤ a.States.length → (s < i ∨ endB a s = false ∨ True) →
      loopO g18 (.h1 a set s (i : Int) j) = if (i : Int) ≤ s ∧ endB a s = true then some true else r := by
  intro k
  induction k with
  | zero =>
    intro i hk hi _
    have : i = a.States.length := by omega
    subst this
    rw [hr, if_neg]
    rintro ⟨h1, h2⟩
    have : a.States[s.toNat]? = none := by rw [List.getElem?_eq_none_iff]; omega
    simp [endB, this] at h2
  | succ k ih =>
    intro i hk hi _
    have hlt : i < a.States.length := by omega
    have hl := hs.1
    have hc : decide ((i : Int) < (a.States.length : Int)) = true := by simpa using hlt
    by_cases h1 : (i : Int) = s
    · by_cases h2 : a.States[i].Ends = true
      · rw [loopO_inr (x := true) (by unfold g18; rw [opt_t hc, opt_chk (by omega), opt_get (getO hlt), opt_t (by simpa using h1), opt_t h2, opt_ret]), if_pos]
        subst h1
        simp [endB, hlt, h2]
      · refine loopO_inl (s' := .h1 a set s ((i + 1 : Nat) : Int) j) ?_ ?_
        · unfold g18
          rw [opt_t hc, opt_chk (by omega), opt_get (getO hlt), opt_t (by simpa using h1), opt_f (by simpa using h2), opt_ret, wsucc (by omega)]
        · rw [ih (i + 1) (by omega) (by omega) (by simp), if_neg (by omega), if_neg]
          rintro ⟨_, h4⟩
          subst h1
          simp [endB, hlt, h2] at h4
    · refine loopO_inl (s' := .h1 a set s ((i + 1 : Nat) : Int) j) ?_ ?_
      · unfold g18
        rw [opt_t hc, opt_chk (by omega), opt_get (getO hlt), opt_f (by simpa using h1), opt_ret, wsucc (by omega)]
      · rw [ih (i + 1) (by omega) (by omega) (by simp)]
        have : ((i + 1 : Nat) : Int) ≤ s ↔ (i : Int) ≤ s := by omega
        simp only [this]

theorem loop18 (a : Nfa) (hs : Small a) (set : List Int) (hset : set.length < 9223372036854775807) : ∀ (k i : Nat), set.length - i = k → i ≤ set.length → loopO g18 (.h0 a set (i : Int)) = some ((set.drop i).any (endB a)) := by
  intro k
  induction k with
  | zero =>
    intro i hk hi
    have : i = set.length := by omega
    subst this
    rw [dropN (Nat.le_refl _)]
    refine loopO_inr ?_
    unfold g18
    rw [opt_f (by simp), opt_ret]; rfl
  | succ k ih =>
    intro i hk hi
    have hlt : i < set.length := by omega
    have hc : decide ((i : Int) < (set.length : Int)) = true := by simpa using hlt
    rw [dropE hlt, List.any_cons]
    refine loopO_inl (s' := .h1 a set set[i] ((0 : Nat) : Int) (i : Int)) ?_ ?_
    · unfold g18
      rw [opt_t hc, opt_chk (by omega), opt_get (getO hlt), opt_ret]; rfl
    · rw [loop18b a hs set set[i] (i : Int) (some ((set.drop (i + 1)).any (endB a))) (loopO_inl (s' := .h0 a set ((i + 1 : Nat) : Int)) (by
        unfold g18
        rw [opt_f (by simp), opt_ret, wsucc (by omega)]) (ih (i + 1) (by omega) (by omega))) _ 0 rfl (by omega) (by simp)]
      by_cases h : endB a set[i] = true
      · have : ((0 : Nat) : Int) ≤ set[i] := by
          simp only [endB, Bool.and_eq_true, Bool.not_eq_true', decide_eq_false_iff_not] at h
          have := h.1; omega
        rw [if_pos ⟨this, h⟩, h]; rfl
      · rw [if_neg (fun x => h x.2)]
        simp at h; rw [h]; rfl

theorem ends18 (a : Nfa) (hs : Small a) (set : List Int) (hset : set.length < 9223372036854775807) : f18 a set = some (endsL a set) := by
  unfold f18
  refine runO_inl (s' := .h0 a set ((0 : Nat) : Int)) ?_ ?_
  · unfold s18
    rw [opt_ret]; rfl
  · rw [loop18 a hs set hset _ 0 rfl (by omega), List.drop_zero]; rfl

theorem ends11 (a : Nfa) (hs : Small a) (set : List Int) (hset : set.length < 9223372036854775807) : f11 a set = some (rightB a && endsL a set) := by
  unfold f11 u11
  rw [opt_get (right7 a hs), opt_ite]
  by_cases h : rightB a = true
  · rw [if_pos h, opt_get (ends18 a hs set hset), opt_ret, h, Bool.true_and]
  · rw [if_neg h, opt_ret]
    simp at h; rw [h, Bool.false_and]

theorem loop12 (a : Nfa) (hs : Small a) (set : List Int) (hset : set.length < 9223372036854775807) : ∀ (k i : Nat), set.length - i = k → i ≤ set.length → loopO g12 (.h0 a set (i : Int)) = some ((set.drop i).any (endB a)) := by
  intro k
  induction k with
  | zero =>
    intro i hk hi
    have : i = set.length := by omega
    subst this
    rw [dropN (Nat.le_refl _)]
    refine loopO_inr ?_
    unfold g12
    rw [opt_f (by simp), opt_ret]; rfl
  | succ k ih =>
    intro i hk hi
    have hlt : i < set.length := by omega
    have hc : decide ((i : Int) < (set.length : Int)) = true := by simpa using hlt
    have hI := ih (i + 1) (by omega) (by omega)
    rw [dropE hlt, List.any_cons]
    by_cases h1 : (0 : Int) ≤ set[i]
    · by_cases h2 : set[i] < (a.States.length : Int)
      · have ht : set[i].toNat < a.States.length := by omega
        have he : endB a set[i] = a.States[set[i].toNat].Ends := by
          have : ¬ set[i] < 0 := by omega
          simp [endB, ht, this]
        by_cases h3 : a.States[set[i].toNat].Ends = true
        · rw [loopO_inr (x := true) (by unfold g12; rw [opt_t hc, opt_chk (by omega), opt_get (getO hlt), opt_t (by simpa using h1), opt_chk (by omega), opt_get (getO hlt), opt_t (by simpa using h2), opt_chk (by omega), opt_get (getO hlt), opt_chk (by omega), opt_get (List.getElem?_eq_getElem ht), opt_t h3, opt_ret]), he, h3]; rfl
        · refine loopO_inl (s' := .h0 a set ((i + 1 : Nat) : Int)) ?_ ?_
          · unfold g12
            rw [opt_t hc, opt_chk (by omega), opt_get (getO hlt), opt_t (by simpa using h1), opt_chk (by omega), opt_get (getO hlt), opt_t (by simpa using h2), opt_chk (by omega), opt_get (getO hlt), opt_chk (by omega), opt_get (List.getElem?_eq_getElem ht), opt_f (by simpa using h3), opt_ret, wsucc (by omega)]
          · simp at h3; rw [hI, he, h3]; rfl
      · have he : endB a set[i] = false := by
          have : a.States[set[i].toNat]? = none := by rw [List.getElem?_eq_none_iff]; omega
          simp [endB, this]
        refine loopO_inl (s' := .h0 a set ((i + 1 : Nat) : Int)) ?_ ?_
        · unfold g12
          rw [opt_t hc, opt_chk (by omega), opt_get (getO hlt), opt_t (by simpa using h1), opt_chk (by omega), opt_get (getO hlt), opt_f (by simpa using h2), opt_ret, wsucc (by omega)]
        · rw [hI, he]; rfl
    · have he : endB a set[i] = false := by
        have : set[i] < 0 := by omega
        simp [endB, this]
      refine loopO_inl (s' := .h0 a set ((i + 1 : Nat) : Int)) ?_ ?_
      · unfold g12
        rw [opt_t hc, opt_chk (by omega), opt_get (getO hlt), opt_f (by simpa using h1), opt_ret, wsucc (by omega)]
      · rw [hI, he]; rfl

theorem ends12 (a : Nfa) (hs : Small a) (set : List Int) (hset : set.length < 9223372036854775807) : f12 a set = some (rightB a && endsL a set) := by
  unfold f12
  by_cases h : rightB a = true
  · refine runO_inl (s' := .h0 a set ((0 : Nat) : Int)) ?_ ?_
    · unfold s12
      rw [opt_get (right8 a hs), opt_f (by simp [h]), opt_ret]; rfl
    · rw [loop12 a hs set hset _ 0 rfl (by omega), List.drop_zero, h]; rfl
  · refine runO_inr ?_
    unfold s12
    simp at h
    rw [opt_get (right8 a hs), opt_t (by simp [h]), opt_ret, h]; rfl

/-! ### rows that are the same -/

theorem loop9 (a : List Int) (ha : a.length < 9223372036854775807) : ∀ (k i : Nat), a.length - i = k → i ≤ a.length → loopO g9 (.h0 a a (i : Int)) = some true := by
  intro k
  induction k with
  | zero =>
    intro i hk hi
    have : i = a.length := by omega
    subst this
    refine loopO_inr ?_
    unfold g9
    rw [opt_f (by simp), opt_ret]
  | succ k ih =>
    intro i hk hi
    have hlt : i < a.length := by omega
    refine loopO_inl ?_ (ih (i + 1) (by omega) (by omega))
    unfold g9
    rw [opt_t (by simpa using hlt), opt_chk (by omega), opt_get (getO hlt), opt_chk (by omega), opt_get (getO hlt), opt_f (by simp), opt_ret, wsucc (by omega)]

theorem ints9 (a : List Int) (ha : a.length < 9223372036854775807) : f9 a a = some true := by
  unfold f9
  refine runO_inl (s' := .h0 a a ((0 : Nat) : Int)) ?_ (loop9 a ha _ 0 rfl (by omega))
  unfold s9
  rw [opt_f (by simp), opt_ret]; rfl

/-! ### the first law -/

def stepR (a : Nfa) (set : List Int) (n : Int) : List Int := if rightB a = true then stepL a set n else []

theorem stepR_len (a : Nfa) (set : List Int) (n : Int) : (stepR a set n).length ≤ 64 := by
  unfold stepR
  split
  · rename_i h; exact step_len h
  · simp

theorem step6 (a : Nfa) (hs : Small a) (set : List Int) (hset : set.length < 9223372036854775807) (n : Int) : f6 a set n = some (stepR a set n) := by
  unfold f6 u6 stepR
  rw [opt_get (right7 a hs)]
  by_cases h : rightB a = true
  · rw [opt_f (by simp [h]), opt_get (step16 a hs h set hset n), opt_ret, if_pos h]
  · rw [opt_t (by simp [h]), opt_ret, if_neg h]

theorem steps3 (a : Nfa) (hs : Small a) (set : List Int) (hset : set.length < 9223372036854775807) (n : Int) : f3 a set n = some true := by
  unfold f3 u3
  have h10 : f10 a set n = some (stepR a set n) := step10 a hs set hset n
  have h9 := ints9 (stepR a set n) (by have := stepR_len a set n; omega)
  rw [opt_get (step6 a hs set hset n), opt_get (right7 a hs), opt_get (right8 a hs), opt_t (by simp), opt_get h10, opt_get h9, opt_t rfl, opt_get (ends11 a hs set hset), opt_get (ends12 a hs set hset), opt_t (by simp), opt_ret]

/-! ### runs -/

def runB (a : Nfa) (word set : List Int) : Bool := rightB a && endsL a (word.foldl (stepR a) set)

theorem loop14 (a : Nfa) (hs : Small a) (hR : rightB a = true) (word : List Int) (hw : word.length < 9223372036854775807) : ∀ (k i : Nat) (set : List Int), word.length - i = k → i ≤ word.length → set.length ≤ 64 →
    loopO g14 (.h0 a word (i : Int) set) = some (runB a (word.drop i) set) := by
  intro k
  induction k with
  | zero =>
    intro i set hk hi hset
    have : i = word.length := by omega
    subst this
    rw [dropN (Nat.le_refl _)]
    refine loopO_inr ?_
    unfold g14
    rw [opt_f (by simp), opt_get (ends18 a hs set (by omega)), opt_ret, runB, hR]; rfl
  | succ k ih =>
    intro i set hk hi hset
    have hlt : i < word.length := by omega
    have hc : decide ((i : Int) < (word.length : Int)) = true := by simpa using hlt
    have hst : stepL a set word[i] = stepR a set word[i] := by rw [stepR, if_pos hR]
    have h16 := step16 a hs hR set (by omega) word[i]
    rw [hst] at h16
    have h21 : f21 set = some set := cloneF_eq (by simp only [LIM]; omega)
    rw [dropE hlt]
    refine loopO_inl (s' := .h0 a word ((i + 1 : Nat) : Int) (stepR a set word[i])) ?_ (ih (i + 1) _ (by omega) (by omega) (stepR_len a set word[i]))
    unfold g14
    rw [opt_t hc, opt_chk (by omega), opt_get (getO hlt), opt_get h21, opt_get h16, opt_ret, wsucc (by omega)]

theorem run14 (a : Nfa) (hs : Small a) (word : List Int) (hw : word.length < 9223372036854775807) : f14 a word = some (runB a word [0]) := by
  unfold f14
  by_cases h : rightB a = true
  · refine runO_inl (s' := .h0 a word ((0 : Nat) : Int) [0]) ?_ ?_
    · unfold s14
      rw [opt_get (right7 a hs), opt_f (by simp [h]), opt_chk ⟨by decide, Nat.le_refl 1⟩, opt_ret]; rfl
    · rw [loop14 a hs h word hw _ 0 [0] rfl (by omega) (by simp), List.drop_zero]
  · refine runO_inr ?_
    unfold s14
    simp at h
    rw [opt_get (right7 a hs), opt_t (by simp [h]), opt_ret, runB, h]; rfl

theorem loop15 (a : Nfa) (hs : Small a) (word : List Int) (hw : word.length < 9223372036854775807) : ∀ (k i : Nat) (set : List Int), word.length - i = k → i ≤ word.length → set.length ≤ 64 →
    loopO g15 (.h0 a word (i : Int) set) = some (runB a (word.drop i) set) := by
  intro k
  induction k with
  | zero =>
    intro i set hk hi hset
    have : i = word.length := by omega
    subst this
    rw [dropN (Nat.le_refl _)]
    refine loopO_inr ?_
    unfold g15
    rw [opt_f (by simp), opt_get (ends12 a hs set (by omega)), opt_ret]; rfl
  | succ k ih =>
    intro i set hk hi hset
    have hlt : i < word.length := by omega
    have hc : decide ((i : Int) < (word.length : Int)) = true := by simpa using hlt
    have h10 : f10 a set word[i] = some (stepR a set word[i]) := step10 a hs set (by omega) word[i]
    rw [dropE hlt]
    refine loopO_inl (s' := .h0 a word ((i + 1 : Nat) : Int) (stepR a set word[i])) ?_ (ih (i + 1) _ (by omega) (by omega) (stepR_len a set word[i]))
    unfold g15
    rw [opt_t hc, opt_chk (by omega), opt_get (getO hlt), opt_get h10, opt_ret, wsucc (by omega)]

theorem run15 (a : Nfa) (hs : Small a) (word : List Int) (hw : word.length < 9223372036854775807) : f15 a word = some (runB a word [0]) := by
  unfold f15
  refine runO_inl (s' := .h0 a word ((0 : Nat) : Int) [0]) ?_ ?_
  · unfold s15
    rw [opt_chk ⟨by decide, Nat.le_refl 1⟩, opt_ret]; rfl
  · rw [loop15 a hs word hw _ 0 [0] rfl (by omega) (by simp), List.drop_zero]


end Go.Proofs.Nfa

/-
  To run is to step; a set's step is its states' steps together.
-/
namespace Go.Proofs.Nfa
open Go Go.Ab Go.ChangeShapes
set_option linter.unusedVariables false
set_option linter.unusedSimpArgs false
set_option maxRecDepth 100000


theorem up_sub_len : ∀ {z x : List Int}, Up x → Up z → (∀ t ∈ x, t ∈ z) → x.length ≤ z.length := by
  intro z
  induction z with
  | nil =>
    intro x _ _ h
    cases x with
    | nil => simp
    | cons a x => exact absurd (h a (by simp)) (by simp)
  | cons w z ih =>
    intro x hx hz h
    have hz := List.pairwise_cons.1 hz
    cases x with
    | nil => simp
    | cons a x =>
      have hx := List.pairwise_cons.1 hx
      have ha : w ≤ a := by
        rcases List.mem_cons.1 (h a (by simp)) with e | e
        · omega
        · have := hz.1 a e; omega
      have : ∀ t ∈ x, t ∈ z := by
        intro t ht
        rcases List.mem_cons.1 (h t (by simp [ht])) with e | e
        · have := hx.1 t ht; omega
        · exact e
      have := ih hx.2 hz.2 this
      simp; omega

theorem up_sum_len {x y z : List Int} (hz : Up z) (hx : Up x) (hy : Up y) (h : ∀ t ∈ z, t ∈ x ∨ t ∈ y) : z.length ≤ x.length + y.length := by
  have e : z.length = (z.filter (fun t => decide (t ∈ x))).length + (z.filter (fun t => !decide (t ∈ x))).length := by
    have := List.length_eq_countP_add_countP (p := fun t => decide (t ∈ x)) (l := z)
    rw [this, List.countP_eq_length_filter, List.countP_eq_length_filter]
    congr 2
    apply List.filter_congr
    intro t _
    by_cases ht : t ∈ x <;> simp [ht]
  have h1 := up_sub_len (x := z.filter (fun t => decide (t ∈ x))) (List.Pairwise.filter _ hz) hx (fun t ht => by simpa using (List.mem_filter.1 ht).2)
  have h2 := up_sub_len (x := z.filter (fun t => !decide (t ∈ x))) (List.Pairwise.filter _ hz) hy (fun t ht => by
    have := List.mem_filter.1 ht
    rcases h t this.1 with e | e
    · have h3 := this.2; simp [e] at h3
    · exact e)
  omega

theorem stepR_up (a : Nfa) (set : List Int) (n : Int) : Up (stepR a set n) := by
  unfold stepR
  split
  · exact sorted_up _
  · exact List.Pairwise.nil

theorem stepR_mem (a : Nfa) (one two : List Int) (n t : Int) : t ∈ stepR a (one ++ two) n ↔ t ∈ stepR a one n ∨ t ∈ stepR a two n := by
  unfold stepR
  split
  · unfold stepL
    rw [sorted_mem, sorted_mem, sorted_mem, List.flatMap_append, List.mem_append]
  · simp

theorem endsL_app (a : Nfa) (one two : List Int) : endsL a (one ++ two) = (endsL a one || endsL a two) := List.any_append

section
variable (a : Nfa) (one two : List Int) (x y z : List Int)

/-- Is a number of z one of y's, from the place k on? -/
theorem loop5c (hy : y.length ≤ 64) (i : Nat) (hi : i < z.length) (r : Option Bool)
    (hr : ∀ b, loopO g5 (.h3 a one two z y x b (y.length : Int) (i : Int)) = if b = true then r else some false) :
    ∀ (k j : Nat) (b : Bool), y.length - j = k → j ≤ y.length → loopO g5 (.h3 a one two z y x b (j : Int) (i : Int)) = if b = true ∨ z[i] ∈ y.drop j then r else some false := by
  intro k
  induction k with
  | zero =>
    intro j b hk hj
    have : j = y.length := by omega
    subst this
    rw [hr, dropN (Nat.le_refl _)]
    simp
  | succ k ih =>
    intro j b hk hj
    have hlt : j < y.length := by omega
    have hc : decide ((j : Int) < (y.length : Int)) = true := by simpa using hlt
    rw [dropE hlt]
    cases b with
    | true =>
      refine loopO_inl (s' := .h3 a one two z y x true ((j + 1 : Nat) : Int) (i : Int)) ?_ ?_
      · unfold g5
        rw [opt_t hc, opt_t rfl, opt_ret, wsucc (by omega)]
      · rw [ih (j + 1) true (by omega) (by omega)]; simp
    | false =>
      refine loopO_inl (s' := .h3 a one two z y x (decide (y[j] = z[i])) ((j + 1 : Nat) : Int) (i : Int)) ?_ ?_
      · unfold g5
        rw [opt_t hc, opt_f rfl, opt_chk (by omega), opt_get (getO hlt), opt_chk (by omega), opt_get (getO hi), opt_ret, wsucc (by omega)]
      · rw [ih (j + 1) _ (by omega) (by omega)]
        simp only [decide_eq_true_eq, List.mem_cons, Bool.false_eq_true, false_or]
        have : (y[j] = z[i] ∨ z[i] ∈ y.drop (j + 1)) ↔ (z[i] = y[j] ∨ z[i] ∈ y.drop (j + 1)) := by rw [eq_comm]
        simp only [this]

theorem loop5b (hx : x.length ≤ 64) (i : Nat) (hi : i < z.length) (r : Option Bool)
    (hr : ∀ b, loopO g5 (.h3 a one two z y x b 0 (i : Int)) = if b = true ∨ z[i] ∈ y then r else some false) :
    ∀ (k j : Nat) (b : Bool), x.length - j = k → j ≤ x.length → loopO g5 (.h2 a one two z x y (j : Int) b (i : Int)) = if b = true ∨ z[i] ∈ x.drop j ∨ z[i] ∈ y then r else some false := by
  intro k
  induction k with
  | zero =>
    intro j b hk hj
    have : j = x.length := by omega
    subst this
    refine loopO_inl (s' := .h3 a one two z y x b 0 (i : Int)) ?_ ?_
    · unfold g5
      rw [opt_f (by simp), opt_ret]
    · rw [hr, dropN (Nat.le_refl _)]
      simp
  | succ k ih =>
    intro j b hk hj
    have hlt : j < x.length := by omega
    have hc : decide ((j : Int) < (x.length : Int)) = true := by simpa using hlt
    rw [dropE hlt]
    cases b with
    | true =>
      refine loopO_inl (s' := .h2 a one two z x y ((j + 1 : Nat) : Int) true (i : Int)) ?_ ?_
      · unfold g5
        rw [opt_t hc, opt_t rfl, opt_ret, wsucc (by omega)]
      · rw [ih (j + 1) true (by omega) (by omega)]; simp
    | false =>
      refine loopO_inl (s' := .h2 a one two z x y ((j + 1 : Nat) : Int) (decide (x[j] = z[i])) (i : Int)) ?_ ?_
      · unfold g5
        rw [opt_t hc, opt_f rfl, opt_chk (by omega), opt_get (getO hlt), opt_chk (by omega), opt_get (getO hi), opt_ret, wsucc (by omega)]
      · rw [ih (j + 1) _ (by omega) (by omega)]
        simp only [decide_eq_true_eq, List.mem_cons, Bool.false_eq_true, false_or]
        have : (x[j] = z[i] ∨ z[i] ∈ x.drop (j + 1) ∨ z[i] ∈ y) ↔ ((z[i] = x[j] ∨ z[i] ∈ x.drop (j + 1)) ∨ z[i] ∈ y) := by rw [eq_comm, or_assoc]
        simp only [this]

theorem loop5a (hs : Small a) (h1 : one.length ≤ 17179869184) (h2 : two.length ≤ 17179869184) (hx : x.length ≤ 64) (hy : y.length ≤ 64) (hz : z.length ≤ 64) (hup : Up z) (hup1 : Up x) (hup2 : Up y)
    (hm : ∀ t, t ∈ z ↔ t ∈ x ∨ t ∈ y) :
    ∀ (k i : Nat), z.length - i = k → i ≤ z.length → loopO g5 (.h1 a one two z x y (i : Int)) = some true := by
  intro k
  induction k with
  | zero =>
    intro i hk hi
    have : i = z.length := by omega
    subst this
    refine loopO_inr ?_
    have l1 := up_sub_len hup1 hup (fun t ht => (hm t).2 (.inl ht))
    have l2 := up_sub_len hup2 hup (fun t ht => (hm t).2 (.inr ht))
    have l3 := up_sum_len hup hup1 hup2 (fun t ht => (hm t).1 ht)
    have eb : List.take (one ++ two).length (List.drop (0 : Nat) (one ++ two)) = one ++ two := by rw [List.drop_zero, List.take_length]
    unfold g5
    rw [opt_f (by simp), opt_t (by simpa using l1), opt_t (by simpa using l2), opt_t (by rw [w64 (by omega) (by omega)]; simp; omega), eb,
      opt_get (ends11 a hs (one ++ two) (by simp; omega)), opt_get (ends11 a hs one (by omega)), endsL_app, opt_ite]
    cases hR : rightB a with
    | false =>
      rw [if_neg (by simp), opt_get (ends11 a hs two (by omega)), hR, opt_t (by simp), opt_ret]
    | true =>
      cases he : endsL a one with
      | true => rw [if_pos (by simp), opt_t (by simp), opt_ret]
      | false => rw [if_neg (by simp), opt_get (ends11 a hs two (by omega)), hR, opt_t (by simp), opt_ret]
  | succ k ih =>
    intro i hk hi
    have hlt : i < z.length := by omega
    have hc : decide ((i : Int) < (z.length : Int)) = true := by simpa using hlt
    refine loopO_inl (s' := .h2 a one two z x y ((0 : Nat) : Int) false (i : Int)) ?_ ?_
    · unfold g5
      rw [opt_t hc, opt_ret]; rfl
    · have hmem := (hm z[i]).1 (List.getElem_mem hlt)
      have hend : ∀ b, loopO g5 (.h3 a one two z y x b (y.length : Int) (i : Int)) = if b = true then some true else some false := by
        intro b
        cases b with
        | false =>
          rw [if_neg (by simp)]
          refine loopO_inr ?_
          unfold g5
          rw [opt_f (by simp), opt_t (by rfl), opt_ret]
        | true =>
          rw [if_pos rfl]
          refine loopO_inl (s' := .h1 a one two z x y ((i + 1 : Nat) : Int)) ?_ (ih (i + 1) (by omega) (by omega))
          unfold g5
          rw [opt_f (by simp), opt_f (by rfl)]
          by_cases h0 : 0 < i
          · have hpl : i - 1 < z.length := by omega
            have ew : IntKind.i64.wrap ((i : Int) - 1) = ((i - 1 : Nat) : Int) := by rw [w64 (by omega) (by omega)]; omega
            have hlt2 : z[i - 1] < z[i] := List.pairwise_iff_getElem.1 hup (i - 1) i hpl hlt (by omega)
            rw [opt_t (by simpa using h0), opt_chk (by omega), opt_get (getO hlt), ew, opt_chk (by omega), opt_get (getO hpl), opt_f (by simp; omega), opt_ret, wsucc (by omega)]
          · rw [opt_f (by simp; omega), opt_ret, wsucc (by omega)]
      have h3 : ∀ b, loopO g5 (.h3 a one two z y x b 0 (i : Int)) = if b = true ∨ z[i] ∈ y then some true else some false := by
        intro b
        have := loop5c a one two x y z hy i hlt (some true) hend _ 0 b rfl (by omega)
        rw [List.drop_zero] at this
        exact this
      rw [loop5b a one two x y z hx i hlt (some true) h3 _ 0 false rfl (by omega), List.drop_zero, if_pos (.inr hmem)]
end

theorem foldl_nil (a : Nfa) (h : rightB a = false) : ∀ (word set : List Int), 0 < word.length → word.foldl (stepR a) set = [] := by
  intro word
  induction word with
  | nil => intro _ h; simp at h
  | cons n word ih =>
    intro set _
    rw [List.foldl_cons]
    have : stepR a set n = [] := by simp [stepR, h]
    rw [this]
    cases word with
    | nil => rfl
    | cons m word => exact ih [] (by simp)

theorem foldl_len (a : Nfa) : ∀ (word set : List Int), set.length ≤ 64 → (word.foldl (stepR a) set).length ≤ 64 := by
  intro word
  induction word with
  | nil => intro set h; exact h
  | cons n word ih => intro set h; exact ih _ (stepR_len a set n)

def headN (word : List Int) : Int := if 0 < word.length then word[0]?.getD 0 else 1

theorem end5 (a : Nfa) (hs : Small a) (one two word : List Int) (h1 : one.length ≤ 17179869184) (h2 : two.length ≤ 17179869184) (hw : word.length ≤ 17179869184) (set : List Int) (hset : set = word.foldl (stepR a) [0]) :
    (g5 (.h0 a one two word (word.length : Int) set)).opt = some (.inl (.h1 a one two (stepR a (one ++ two) (headN word)) (stepR a one (headN word)) (stepR a two (headN word)) 0)) := by
  have eb : List.take (one ++ two).length (List.drop (0 : Nat) (one ++ two)) = one ++ two := by rw [List.drop_zero, List.take_length]
  have hsl : set.length ≤ 64 := by rw [hset]; exact foldl_len a word [0] (by simp)
  have c1 : one.length * (8 : Nat) ≤ 140737488355328 ∧ one.length ≤ 140737488355328 := by omega
  have c2 : one.length = one.length ∧ (one.length + two.length) * (8 : Nat) ≤ 140737488355328 ∧ one.length + two.length ≤ 140737488355328 := by omega
  have c3 : (0 : Nat) + (one ++ two).length ≤ (one ++ two).length ∧ (0 : Nat) + (one ++ two).length ≤ (one ++ two).length ∧ ((0 : Nat) + (one ++ two).length).le (one ++ two).length := ⟨by omega, by omega, by rw [Nat.zero_add]; exact Nat.le_refl _⟩
  have hb : (one ++ two).length < 9223372036854775807 := by simp; omega
  have e1 := fun n => step6 a hs one (by omega) n
  have e2 := fun n => step6 a hs two (by omega) n
  have e3 := fun n => step6 a hs (one ++ two) hb n
  have hrun := run14 a hs word (by omega)
  have hend := ends11 a hs set (by omega)
  have htail : ∀ {T : Cm (L5 ⊕ Bool)} {T' : Int → Cm (L5 ⊕ Bool)}, (∀ n, (T' n).opt = some (.inl (.h1 a one two (stepR a (one ++ two) n) (stepR a one n) (stepR a two n) 0))) →
      T.opt = some (.inl (.h1 a one two (stepR a (one ++ two) 1) (stepR a one 1) (stepR a two 1) 0)) →
      (Cm.ite (decide ((0 : Int) < (word.length : Int))) (.chk ((0 : Int) ≤ (0 : Int)) (.get (word[(0 : Nat)]?) T')) T).opt =
        some (.inl (.h1 a one two (stepR a (one ++ two) (headN word)) (stepR a one (headN word)) (stepR a two (headN word)) 0)) := by
    intro T T' hT' hT
    by_cases h0 : 0 < word.length
    · have : headN word = word[0] := by simp [headN, h0]
      rw [opt_t (by simpa using h0), opt_chk (by omega), opt_get (List.getElem?_eq_getElem h0), hT', this]
    · have : headN word = 1 := by simp only [headN, if_neg h0]
      rw [opt_f (by simpa using h0), hT, this]
  unfold g5
  rw [opt_f (by simp), opt_get (right7 a hs)]
  cases hR : rightB a with
  | true =>
    rw [opt_t rfl, opt_get hend, opt_get hrun, hR]
    have hrb : runB a word [0] = endsL a set := by rw [runB, hR, hset]; rfl
    rw [opt_f (by rw [hrb]; cases endsL a set <;> rfl), opt_get (right7 a hs), hR, opt_f (by rfl)]
    refine htail (fun n => ?_) ?_
    · rw [opt_chk c1, opt_chk c2, opt_get (e1 _), opt_get (e2 _), opt_chk c3, eb, opt_get (e3 _), opt_ret]
    · rw [opt_chk c1, opt_chk c2, opt_get (e1 _), opt_get (e2 _), opt_chk c3, eb, opt_get (e3 _), opt_ret]
  | false =>
    rw [opt_f rfl, opt_get (right7 a hs), hR, opt_t (by rfl), opt_get hrun]
    have hrb : runB a word [0] = false := by rw [runB, hR]; rfl
    rw [hrb, opt_f rfl]
    have fin : ∀ {T : Cm (L5 ⊕ Bool)} {T' : Int → Cm (L5 ⊕ Bool)}, (∀ n, (T' n).opt = some (.inl (.h1 a one two (stepR a (one ++ two) n) (stepR a one n) (stepR a two n) 0))) →
      T.opt = some (.inl (.h1 a one two (stepR a (one ++ two) 1) (stepR a one 1) (stepR a two 1) 0)) →
      (Cm.ite (decide ((0 : Int) < (word.length : Int))) (.chk ((0 : Int) ≤ (0 : Int)) (.get (word[(0 : Nat)]?) T')) T).opt =
        some (.inl (.h1 a one two (stepR a (one ++ two) (headN word)) (stepR a one (headN word)) (stepR a two (headN word)) 0)) := htail
    by_cases hs0 : 0 < set.length
    · have hw0 : ¬ 0 < word.length := fun h => by
        rw [hset, foldl_nil a hR word [0] h] at hs0
        simp at hs0
      rw [opt_t (by simpa using hs0), opt_f (by simpa using hw0)]
      refine fin (fun n => ?_) ?_
      · rw [opt_chk c1, opt_chk c2, opt_get (e1 _), opt_get (e2 _), opt_chk c3, eb, opt_get (e3 _), opt_ret]
      · rw [opt_chk c1, opt_chk c2, opt_get (e1 _), opt_get (e2 _), opt_chk c3, eb, opt_get (e3 _), opt_ret]
    · rw [opt_f (by simpa using hs0)]
      refine fin (fun n => ?_) ?_
      · rw [opt_chk c1, opt_chk c2, opt_get (e1 _), opt_get (e2 _), opt_chk c3, eb, opt_get (e3 _), opt_ret]
      · rw [opt_chk c1, opt_chk c2, opt_get (e1 _), opt_get (e2 _), opt_chk c3, eb, opt_get (e3 _), opt_ret]

theorem loop5 (a : Nfa) (hs : Small a) (one two word : List Int) (h1 : one.length ≤ 17179869184) (h2 : two.length ≤ 17179869184) (hw : word.length ≤ 17179869184) :
    ∀ (k i : Nat), word.length - i = k → i ≤ word.length → loopO g5 (.h0 a one two word (i : Int) ((word.take i).foldl (stepR a) [0])) = some true := by
  intro k
  induction k with
  | zero =>
    intro i hk hi
    have : i = word.length := by omega
    subst this
    rw [List.take_length]
    refine loopO_inl (end5 a hs one two word h1 h2 hw _ rfl) ?_
    exact loop5a a one two _ _ _ hs h1 h2 (stepR_len _ _ _) (stepR_len _ _ _) (stepR_len _ _ _) (stepR_up _ _ _) (stepR_up _ _ _) (stepR_up _ _ _) (fun t => stepR_mem a one two _ t) _ 0 rfl (by omega)
  | succ k ih =>
    intro i hk hi
    have hlt : i < word.length := by omega
    have hc : decide ((i : Int) < (word.length : Int)) = true := by simpa using hlt
    have hl := foldl_len a (word.take i) [0] (by simp)
    have e : (word.take (i + 1)).foldl (stepR a) [0] = stepR a ((word.take i).foldl (stepR a) [0]) word[i] := by
      rw [List.take_succ_eq_append_getElem hlt, List.foldl_append]; rfl
    have := ih (i + 1) (by omega) (by omega)
    rw [e] at this
    refine loopO_inl ?_ this
    unfold g5
    rw [opt_t hc, opt_chk (by omega), opt_get (getO hlt), opt_get (step6 a hs _ (by omega) _), opt_ret, wsucc (by omega)]

theorem goes5 (a : Nfa) (hs : Small a) (one two word : List Int) (h1 : one.length ≤ 17179869184) (h2 : two.length ≤ 17179869184) (hw : word.length ≤ 17179869184) : f5 a one two word = some true := by
  unfold f5
  refine runO_inl (s' := .h0 a one two word ((0 : Nat) : Int) [0]) ?_ ?_
  · unfold s5
    rw [opt_chk ⟨by decide, Nat.le_refl 1⟩, opt_ret]; rfl
  · exact loop5 a hs one two word h1 h2 hw _ 0 rfl (by omega)

theorem small_ofU {a : Nfa} (h : wfu_24 a) : Small a := by
  have h : a.States.length ≤ upB ∧ ∀ y ∈ a.States, wfu_34 y := h
  have hr : upB < 9223372036854775807 := by decide
  refine ⟨by omega, fun s hs => ?_⟩
  have := (h.2 s hs).2.2.1
  omega
theorem len_ofU {l : List Int} (h : wfu_25 l) : l.length ≤ 17179869184 := h.1

theorem law5 (a : Nfa) (one two word : List Int) (ha : wfu_24 a) (h1 : wfu_25 one) (h2 : wfu_25 two) (hw : wfu_25 word) : f5 a one two word = some true := goes5 a (small_ofU ha) one two word (len_ofU h1) (len_ofU h2) (len_ofU hw)

end Go.Proofs.Nfa
