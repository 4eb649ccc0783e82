/- A part of a law's proof: DfaPl7. -/
import Derived.Test.YthhbggmlfilpdaaDoorDfaDe
import Derived.Test.YthhbggmlfilpdaaDoorDfaG1
import Derived.Test.YthhbggmlfilpdaaDoorDfaMod
import Derived.Test.YthhbggmlfilpdaaDoorSvPlain
set_option linter.constructorNameAsVariable false
/-
  Which states are right: the program and the document's answer say the same.
-/
namespace Go.Proofs.Dfa
open Go Go.Ab Go.ChangeShapes
set_option linter.unusedVariables false
set_option linter.unusedSimpArgs false
set_option maxRecDepth 100000

/-- Rising, from behind a number on, and below another one. -/
def chain (n : Int) : Int → List Int → Bool
  | _, [] => true
  | last, t :: ts => decide (last < t) && (decide (t < n) && chain n t ts)

def okS (n : Int) (s : NfaState) : Bool := decide (0 ≤ s.Switch) && (decide (s.Switch ≤ 65535) && chain n 0 s.Next)

def fst0 (l : List NfaState) : Bool := match l with
  | s :: _ => decide (s.Switch = 0)
  | [] => false

def rightB (a : Nfa) : Bool := decide (a.States.length ≤ 64) && (fst0 a.States && a.States.all (okS a.States.length))

/-- What is known of the lengths. -/
def Small (a : Nfa) : Prop := a.States.length < 9223372036854775807 ∧ ∀ s ∈ a.States, s.Next.length < 9223372036854775807

theorem getO {α : Type} {l : List α} {i : Nat} (h : i < l.length) : l[((i : Nat) : Int).toNat]? = some l[i] := by simp [h]

theorem loop7b (a : Nfa) (x : NfaState) (j : Nat) (hx : x.Next.length < 9223372036854775807) (r : Option Bool) (hr : ∀ last, loopO g46 (.h1 a x (x.Next.length : Int) last (j : Int)) = r) :
    ∀ (k i : Nat) (last : Int), x.Next.length - i = k → i ≤ x.Next.length → loopO g46 (.h1 a x (i : Int) last (j : Int)) = if chain a.States.length last (x.Next.drop i) = true then r else some false := by
  intro k
  induction k with
  | zero =>
    intro i last hk hi
    have : i = x.Next.length := by omega
    subst this
    rw [dropN (Nat.le_refl _), hr]
    simp [chain]
  | succ k ih =>
    intro i last hk hi
    have hlt : i < x.Next.length := by omega
    have hg : (g46 (.h1 a x (i : Int) last (j : Int))).opt = if x.Next[i] ≤ last then some (.inr false) else if (a.States.length : Int) ≤ x.Next[i] then some (.inr false) else some (.inl (.h1 a x ((i + 1 : Nat) : Int) x.Next[i] (j : Int))) := by
      unfold g46
      rw [opt_t (by simpa using (by exact_mod_cast hlt : (i : Int) < (x.Next.length : Int))), opt_chk (by omega), opt_get (getO hlt), opt_ite, opt_ite, wsucc (by omega)]
      simp only [decide_eq_true_eq]
      split
      · rfl
      · split <;> rfl
    rw [dropE hlt, chain]
    by_cases h1 : x.Next[i] ≤ last
    · rw [loopO_inr (x := false) (by rw [hg, if_pos h1])]
      rw [if_neg (by simp; omega)]
    · by_cases h2 : (a.States.length : Int) ≤ x.Next[i]
      · rw [loopO_inr (x := false) (by rw [hg, if_neg h1, if_pos h2])]
        rw [if_neg (by simp; omega)]
      · rw [loopO_inl (by rw [hg, if_neg h1, if_neg h2]) (ih (i + 1) x.Next[i] (by omega) (by omega))]
        have e1 : decide (last < x.Next[i]) = true := by simp; omega
        have e2 : decide (x.Next[i] < (a.States.length : Int)) = true := by simp; omega
        rw [e1, e2, Bool.true_and, Bool.true_and]

theorem loop7 (a : Nfa) (hs : Small a) : ∀ (k j : Nat), a.States.length - j = k → j ≤ a.States.length → loopO g46 (.h0 a (j : Int)) = some ((a.States.drop j).all (okS a.States.length)) := by
  intro k
  induction k with
  | zero =>
    intro j hk hj
    have : j = a.States.length := by omega
    subst this
    rw [dropN (Nat.le_refl _)]
    refine loopO_inr ?_
    unfold g46
    rw [opt_f (by simp), opt_ret]
    rfl
  | succ k ih =>
    intro j hk hj
    have hlt : j < a.States.length := by omega
    have hx := hs.2 a.States[j] (List.getElem_mem hlt)
    have hg : (g46 (.h0 a (j : Int))).opt = if a.States[j].Switch < 0 then some (.inr false) else if (65535 : Int) < a.States[j].Switch then some (.inr false) else some (.inl (.h1 a a.States[j] 0 0 (j : Int))) := by
      unfold g46
      rw [opt_t (by simpa using (by exact_mod_cast hlt : (j : Int) < (a.States.length : Int))), opt_chk (by omega), opt_get (getO hlt), opt_ite, opt_ite]
      simp only [decide_eq_true_eq]
      split
      · rfl
      · split <;> rfl
    rw [dropE hlt, List.all_cons, okS]
    by_cases h1 : a.States[j].Switch < 0
    · rw [loopO_inr (x := false) (by rw [hg, if_pos h1])]
      have : decide (0 ≤ a.States[j].Switch) = false := by simp; omega
      rw [this]; rfl
    · by_cases h2 : (65535 : Int) < a.States[j].Switch
      · rw [loopO_inr (x := false) (by rw [hg, if_neg h1, if_pos h2])]
        have : decide (a.States[j].Switch ≤ 65535) = false := by simp; omega
        rw [this]; simp
      · have e1 : decide (0 ≤ a.States[j].Switch) = true := by simp; omega
        have e2 : decide (a.States[j].Switch ≤ 65535) = true := by simp; omega
        rw [e1, e2, Bool.true_and, Bool.true_and]
        refine loopO_inl (by rw [hg, if_neg h1, if_neg h2]) ?_
        have := loop7b a a.States[j] j hx (some ((a.States.drop (j + 1)).all (okS a.States.length))) (fun last => by
          refine loopO_inl (s' := .h0 a ((j + 1 : Nat) : Int)) ?_ (ih (j + 1) (by omega) (by omega))
          unfold g46
          rw [opt_f (by simp), opt_ret, wsucc (by have := hs.1; omega)]) a.States[j].Next.length 0 0 (by omega) (by omega)
        rw [show ((0 : Nat) : Int) = 0 from rfl, List.drop_zero] at this
        rw [this]
        by_cases hc : chain a.States.length 0 a.States[j].Next = true
        · rw [if_pos hc, hc, Bool.true_and]
        · rw [if_neg hc]
          rw [Bool.not_eq_true] at hc
          rw [hc]; rfl

theorem right7 (a : Nfa) (hs : Small a) : f46 a = some (rightB a) := by
  unfold f46 rightB
  by_cases h0 : a.States.length = 0
  · have : a.States = [] := List.length_eq_zero_iff.1 h0
    refine runO_inr ?_
    unfold s46
    rw [opt_t (by simp [h0]), opt_ret]
    simp [this, fst0]
  · by_cases h1 : (64 : Int) < a.States.length
    · refine runO_inr ?_
      unfold s46
      rw [opt_f (by simpa using h0), opt_t (by simpa using h1), opt_ret]
      have : decide (a.States.length ≤ 64) = false := by simp; omega
      rw [this]; rfl
    · have hp : 0 < a.States.length := by omega
      have hd : decide (a.States.length ≤ 64) = true := by simp; omega
      have hf : fst0 a.States = decide (a.States[0].Switch = 0) := by
        generalize a.States = l at hp
        cases l with
        | nil => simp at hp
        | cons s l => rfl
      have hget : a.States[(0 : Nat)]? = some a.States[0] := by simp [hp]
      have hs7 : (s46 a).opt = if a.States[0].Switch = 0 then some (.inl (.h0 a 0)) else some (.inr false) := by
        unfold s46
        rw [opt_f (by simpa using h0), opt_f (by simpa using h1), opt_chk (by omega), opt_get hget, opt_ite]
        by_cases h2 : a.States[0].Switch = 0
        · simp [h2]; rfl
        · simp [h2]; rfl
      by_cases h2 : a.States[0].Switch = 0
      · rw [runO_inl (by rw [hs7, if_pos h2]; rfl) (loop7 a hs a.States.length 0 (by omega) (by omega)), hd, hf, List.drop_zero]
        simp [h2]
      · rw [runO_inr (x := false) (by rw [hs7, if_neg h2]), hd, hf]
        simp [h2]


/-- The number ahead, or 0. -/
def prev (l : List Int) (i : Nat) : Int := if i = 0 then 0 else l.getD (i - 1) 0

theorem loop8b (a : Nfa) (x : NfaState) (j : Int) (b1 b2 b3 : Bool) (i' : Int) (hx : x.Next.length < 9223372036854775807) (r : Option Bool) (hr : loopO g42 (.h1 a x b1 b2 (x.Next.length : Int) b3 i' j) = r) :
    ∀ (k i : Nat), x.Next.length - i = k → i ≤ x.Next.length → 0 ≤ prev x.Next i → loopO g42 (.h1 a x b1 b2 (i : Int) b3 i' j) = if chain a.States.length (prev x.Next i) (x.Next.drop i) = true then r else some false := by
  intro k
  induction k with
  | zero =>
    intro i hk hi _
    have : i = x.Next.length := by omega
    subst this
    rw [dropN (Nat.le_refl _), hr]
    simp [chain]
  | succ k ih =>
    intro i hk hi hp
    have hlt : i < x.Next.length := by omega
    have hpv : prev x.Next (i + 1) = x.Next[i] := by simp [prev, hlt]
    have hg : (g42 (.h1 a x b1 b2 (i : Int) b3 i' j)).opt = if x.Next[i] < 1 then some (.inr false) else if (a.States.length : Int) ≤ x.Next[i] then some (.inr false) else if 0 < i ∧ x.Next[i] ≤ prev x.Next i then some (.inr false) else some (.inl (.h1 a x b1 b2 ((i + 1 : Nat) : Int) b3 i' j)) := by
      unfold g42
      rw [opt_t (by simpa using (by exact_mod_cast hlt : (i : Int) < (x.Next.length : Int))), opt_chk (by omega), opt_get (getO hlt), opt_ite]
      simp only [decide_eq_true_eq]
      by_cases h1 : x.Next[i] < 1
      · rw [if_pos h1, if_pos h1]; rfl
      · rw [if_neg h1, if_neg h1, opt_chk (by omega), opt_get (getO hlt), opt_ite]
        simp only [decide_eq_true_eq]
        by_cases h2 : (a.States.length : Int) ≤ x.Next[i]
        · rw [if_pos h2, if_pos h2]; rfl
        · rw [if_neg h2, if_neg h2, opt_ite]
          simp only [decide_eq_true_eq]
          by_cases h3 : 0 < i
          · have h3' : (0 : Int) < (i : Int) := by exact_mod_cast h3
            have hpl : i - 1 < x.Next.length := by omega
            have ew : IntKind.i64.wrap ((i : Int) - 1) = ((i - 1 : Nat) : Int) := by rw [w64 (by omega) (by omega)]; omega
            have epv : prev x.Next i = x.Next[i - 1] := by simp [prev, show i ≠ 0 by omega, hpl]
            rw [if_pos h3', opt_chk (by omega), opt_get (getO hlt), ew, opt_chk (by omega), opt_get (getO hpl), opt_ite, wsucc (by omega), epv]
            simp only [decide_eq_true_eq]
            by_cases h4 : x.Next[i] ≤ x.Next[i - 1]
            · rw [if_pos h4, if_pos ⟨h3, h4⟩]; rfl
            · rw [if_neg h4, if_neg (fun h => h4 h.2)]; rfl
          · have h3' : ¬ (0 : Int) < (i : Int) := by omega
            rw [if_neg h3', if_neg (fun h => h3 h.1), wsucc (by omega)]; rfl
    rw [dropE hlt, chain]
    by_cases h1 : x.Next[i] < 1
    · rw [loopO_inr (x := false) (by rw [hg, if_pos h1])]
      rw [if_neg (by simp; omega)]
    · by_cases h2 : (a.States.length : Int) ≤ x.Next[i]
      · rw [loopO_inr (x := false) (by rw [hg, if_neg h1, if_pos h2])]
        rw [if_neg (by simp; omega)]
      · by_cases h3 : 0 < i ∧ x.Next[i] ≤ prev x.Next i
        · rw [loopO_inr (x := false) (by rw [hg, if_neg h1, if_neg h2, if_pos h3])]
          rw [if_neg (by simp; omega)]
        · rw [loopO_inl (by rw [hg, if_neg h1, if_neg h2, if_neg h3]) (ih (i + 1) (by omega) (by omega) (by rw [hpv]; omega)), hpv]
          have e1 : decide (prev x.Next i < x.Next[i]) = true := by
            simp only [decide_eq_true_eq]
            rcases Nat.eq_zero_or_pos i with h | h
            · subst h; simp only [prev, if_true]; omega
            · have : ¬ x.Next[i] ≤ prev x.Next i := fun h' => h3 ⟨h, h'⟩
              omega
          have e2 : decide (x.Next[i] < (a.States.length : Int)) = true := by simp; omega
          rw [e1, e2, Bool.true_and, Bool.true_and]

/-- The first one's number is 0, where it is still to be asked. -/
def first (l : List NfaState) (j : Nat) : Bool := j != 0 || fst0 l

theorem loop8 (a : Nfa) (hs : Small a) : ∀ (k j : Nat), a.States.length - j = k → j ≤ a.States.length → 0 < a.States.length → loopO g42 (.h0 a (j : Int)) = some (first a.States j && (a.States.drop j).all (okS a.States.length)) := by
  intro k
  induction k with
  | zero =>
    intro j hk hj hp
    have : j = a.States.length := by omega
    subst this
    have : first a.States a.States.length = true := by simp [first]; left; intro h; rw [h] at hp; simp at hp
    rw [dropN (Nat.le_refl _), this]
    refine loopO_inr ?_
    unfold g42
    rw [opt_f (by simp), opt_ret]
    rfl
  | succ k ih =>
    intro j hk hj hp
    have hlt : j < a.States.length := by omega
    have hx := hs.2 a.States[j] (List.getElem_mem hlt)
    have hfj : first a.States j = !(decide (j = 0) && !decide (a.States[j].Switch = 0)) := by
      rcases Nat.eq_zero_or_pos j with h | h
      · subst h
        have : fst0 a.States = decide (a.States[0].Switch = 0) := by
          generalize a.States = l at hlt
          cases l with
          | nil => simp at hlt
          | cons s l => rfl
        simp [first, this]
      · have : j ≠ 0 := by omega
        simp [first, this]
    obtain ⟨b1, b2, b3, hg⟩ : ∃ b1 b2 b3, (g42 (.h0 a (j : Int))).opt = if a.States[j].Switch < 0 then some (.inr false) else if (65535 : Int) < a.States[j].Switch then some (.inr false) else if first a.States j = false then some (.inr false) else some (.inl (.h1 a a.States[j] b1 b2 0 b3 (j : Int) (j : Int))) := by
      unfold g42
      rw [opt_t (by simpa using (by exact_mod_cast hlt : (j : Int) < (a.States.length : Int))), opt_chk (by omega), opt_get (getO hlt), opt_ite, hfj]
      simp only [decide_eq_true_eq]
      by_cases h1 : a.States[j].Switch < 0
      · exact ⟨false, false, false, by rw [if_pos h1, if_pos h1]; rfl⟩
      · rw [if_neg h1, opt_ite]
        simp only [decide_eq_true_eq]
        by_cases h2 : (65535 : Int) < a.States[j].Switch
        · exact ⟨false, false, false, by rw [if_neg h1, if_pos h2, if_pos h2]; rfl⟩
        · rw [if_neg h2, opt_ite]
          simp only [decide_eq_true_eq]
          by_cases h3 : j = 0
          · have h3' : (j : Int) = 0 := by omega
            rw [if_pos h3', opt_ite]
            by_cases h4 : a.States[j].Switch = 0
            · refine ⟨!decide (a.States[j].Switch = 0), true, decide ((j : Int) = 0), ?_⟩
              have e : decide (a.States[j].Switch = 0) = true := by simp [h4]
              rw [if_neg h1, if_neg h2, e, if_neg (by simp), if_neg (by simp)]; rfl
            · refine ⟨false, false, false, ?_⟩
              have e : decide (a.States[j].Switch = 0) = false := by simp [h4]
              have e' : decide (j = 0) = true := by simp [h3]
              rw [if_neg h1, if_neg h2, e, e', if_pos (by simp), if_pos (by simp)]; rfl
          · have h3' : ¬ (j : Int) = 0 := by omega
            refine ⟨false, false, decide ((j : Int) = 0), ?_⟩
            rw [if_neg h1, if_neg h2, if_neg h3', if_neg (by simp [h3])]; rfl
    rw [dropE hlt, List.all_cons, okS]
    by_cases h1 : a.States[j].Switch < 0
    · rw [loopO_inr (x := false) (by rw [hg, if_pos h1])]
      have : decide (0 ≤ a.States[j].Switch) = false := by simp; omega
      rw [this]; simp
    · by_cases h2 : (65535 : Int) < a.States[j].Switch
      · rw [loopO_inr (x := false) (by rw [hg, if_neg h1, if_pos h2])]
        have : decide (a.States[j].Switch ≤ 65535) = false := by simp; omega
        rw [this]; simp
      · by_cases h3 : first a.States j = false
        · rw [loopO_inr (x := false) (by rw [hg, if_neg h1, if_neg h2, if_pos h3]), h3]; rfl
        · have e1 : decide (0 ≤ a.States[j].Switch) = true := by simp; omega
          have e2 : decide (a.States[j].Switch ≤ 65535) = true := by simp; omega
          have e3 : first a.States j = true := by simpa using h3
          rw [e1, e2, e3, Bool.true_and, Bool.true_and, Bool.true_and]
          refine loopO_inl (by rw [hg, if_neg h1, if_neg h2, if_neg h3]) ?_
          have := loop8b a a.States[j] (j : Int) b1 b2 b3 (j : Int) hx (some ((a.States.drop (j + 1)).all (okS a.States.length))) (by
            have hn := ih (j + 1) (by omega) (by omega) hp
            have hf1 : first a.States (j + 1) = true := by simp [first]
            rw [hf1, Bool.true_and] at hn
            refine loopO_inl (s' := .h0 a ((j + 1 : Nat) : Int)) ?_ hn
            unfold g42
            rw [opt_f (by simp), opt_ret, wsucc (by have := hs.1; omega)]) a.States[j].Next.length 0 (by omega) (by omega) (by simp [prev])
          rw [show ((0 : Nat) : Int) = 0 from rfl, List.drop_zero, show prev a.States[j].Next 0 = 0 by simp [prev]] at this
          rw [this]
          by_cases hc : chain a.States.length 0 a.States[j].Next = true
          · rw [if_pos hc, hc, Bool.true_and]
          · rw [if_neg hc]
            rw [Bool.not_eq_true] at hc
            rw [hc]; rfl

theorem right8 (a : Nfa) (hs : Small a) : f42 a = some (rightB a) := by
  unfold f42 rightB
  by_cases h0 : a.States.length = 0
  · have : a.States = [] := List.length_eq_zero_iff.1 h0
    refine runO_inr ?_
    unfold s42
    rw [opt_t (by simp [h0]), opt_ret]
    simp [this, fst0]
  · by_cases h1 : (64 : Int) < a.States.length
    · refine runO_inr ?_
      unfold s42
      rw [opt_f (by simp; omega), opt_t (by simpa using h1), opt_ret]
      have : decide (a.States.length ≤ 64) = false := by simp; omega
      rw [this]; rfl
    · have hd : decide (a.States.length ≤ 64) = true := by simp; omega
      refine runO_inl (s' := .h0 a ((0 : Nat) : Int)) ?_ ?_
      · unfold s42
        rw [opt_f (by simp; omega), opt_f (by simpa using h1), opt_ret]; rfl
      · rw [loop8 a hs a.States.length 0 (by omega) (by omega) (by omega), hd, List.drop_zero]
        simp [first]

end Go.Proofs.Dfa

/-
  To which states one goes: the program's set of bits and the document's rising row are the same.
-/
namespace Go.Proofs.Dfa
open Go Go.Ab Go.ChangeShapes
set_option linter.unusedVariables false
set_option linter.unusedSimpArgs false
set_option maxRecDepth 100000

/-! ### rising rows -/

def Up (l : List Int) : Prop := l.Pairwise (· < ·)

theorem up_ext : ∀ {a b : List Int}, Up a → Up b → (∀ x, x ∈ a ↔ x ∈ b) → a = b := by
  intro a
  induction a with
  | nil =>
    intro b _ _ h
    cases b with
    | nil => rfl
    | cons y b => exact absurd ((h y).2 (by simp)) (by simp)
  | cons x a ih =>
    intro b ha hb h
    cases b with
    | nil => exact absurd ((h x).1 (by simp)) (by simp)
    | cons y b =>
      have ha := List.pairwise_cons.1 ha
      have hb := List.pairwise_cons.1 hb
      have e : x = y := by
        rcases List.mem_cons.1 ((h x).1 (by simp)) with e | e
        · exact e
        · rcases List.mem_cons.1 ((h y).2 (by simp)) with e' | e'
          · exact e'.symm
          · have := hb.1 x e; have := ha.1 y e'; omega
      subst e
      congr 1
      refine ih ha.2 hb.2 fun z => ⟨fun hz => ?_, fun hz => ?_⟩
      · rcases List.mem_cons.1 ((h z).1 (by simp [hz])) with e | e
        · have := ha.1 z hz; omega
        · exact e
      · rcases List.mem_cons.1 ((h z).2 (by simp [hz])) with e | e
        · have := hb.1 z hz; omega
        · exact e

/-- One number more in a rising row, in its place. -/
def ins (n : Int) : List Int → List Int
  | [] => [n]
  | x :: l => if x = n then x :: l else if n < x then n :: x :: l else x :: ins n l

theorem ins_mem {n x : Int} : ∀ {l : List Int}, x ∈ ins n l ↔ x = n ∨ x ∈ l := by
  intro l
  induction l with
  | nil => simp [ins]
  | cons y l ih =>
    rw [ins]
    split
    · rename_i h; subst h
      simp
    · split
      · simp
      · simp only [List.mem_cons, ih]
        constructor
        · rintro (h | h | h) <;> simp [h]
        · rintro (h | h | h) <;> simp [h]

theorem ins_up {n : Int} : ∀ {l : List Int}, Up l → Up (ins n l) := by
  intro l
  induction l with
  | nil => intro _; simp [ins, Up]
  | cons y l ih =>
    intro h
    have h := List.pairwise_cons.1 h
    rw [ins]
    split
    · exact List.pairwise_cons.2 h
    · split
      · rename_i h1 h2
        refine List.pairwise_cons.2 ⟨fun z hz => ?_, List.pairwise_cons.2 h⟩
        rcases List.mem_cons.1 hz with e | e
        · subst e; exact h2
        · have := h.1 z e; omega
      · rename_i h1 h2
        refine List.pairwise_cons.2 ⟨fun z hz => ?_, ih h.2⟩
        rcases ins_mem.1 hz with e | e
        · subst e; omega
        · exact h.1 z e

def sorted (l : List Int) : List Int := l.foldl (fun a t => ins t a) []

theorem foldl_up : ∀ (l a : List Int), Up a → Up (l.foldl (fun a t => ins t a) a) := by
  intro l
  induction l with
  | nil => intro a h; exact h
  | cons x l ih => intro a h; exact ih _ (ins_up h)
theorem foldl_mem {x : Int} : ∀ (l a : List Int), x ∈ l.foldl (fun a t => ins t a) a ↔ x ∈ a ∨ x ∈ l := by
  intro l
  induction l with
  | nil => intro a; simp
  | cons y l ih =>
    intro a
    rw [List.foldl_cons, ih, ins_mem, List.mem_cons]
    constructor
    · rintro ((h | h) | h) <;> simp [h]
    · rintro (h | h | h) <;> simp [h]
theorem sorted_up (l : List Int) : Up (sorted l) := foldl_up l [] List.Pairwise.nil
theorem sorted_mem {x : Int} {l : List Int} : x ∈ sorted l ↔ x ∈ l := by unfold sorted; rw [foldl_mem]; simp

/-- The numbers of the bits below k that a number has. -/
def bitsL (m k : Nat) : List Int := ((List.range k).filter m.testBit).map Int.ofNat
theorem bitsL_succ (m k : Nat) : bitsL m (k + 1) = bitsL m k ++ (if m.testBit k then [(k : Int)] else []) := by
  unfold bitsL
  rw [List.range_succ, List.filter_append, List.map_append]
  congr 1
  by_cases h : m.testBit k = true
  · simp [h]
  · simp at h; simp [h]
theorem bitsL_mem {m k : Nat} {x : Int} : x ∈ bitsL m k ↔ 0 ≤ x ∧ x.toNat < k ∧ m.testBit x.toNat = true := by
  unfold bitsL
  simp only [List.mem_map, List.mem_filter, List.mem_range]
  constructor
  · rintro ⟨a, ⟨h1, h2⟩, rfl⟩
    exact ⟨by simp, by simpa using h1, by simpa using h2⟩
  · rintro ⟨h1, h2, h3⟩
    exact ⟨x.toNat, ⟨h2, h3⟩, by simp; omega⟩
theorem bitsL_up (m k : Nat) : Up (bitsL m k) := by
  unfold Up bitsL
  rw [List.pairwise_map]
  refine List.Pairwise.imp (R := (· < ·)) (fun h => ?_) ?_
  · simpa using h
  · exact List.Pairwise.filter _ List.pairwise_lt_range
theorem bitsL_len (m k : Nat) : (bitsL m k).length ≤ k := by
  unfold bitsL
  rw [List.length_map]
  exact Nat.le_trans (List.length_filter_le _ _) (by simp)

/-- A rising row within bounds is short. -/
theorem up_len : ∀ (l : List Int) (lo : Int) (k : Nat), Up l → (∀ x ∈ l, lo ≤ x ∧ x < lo + k) → l.length ≤ k := by
  intro l
  induction l with
  | nil => intro _ _ _ _; simp
  | cons x l ih =>
    intro lo k h hb
    have h := List.pairwise_cons.1 h
    have hx := hb x (by simp)
    have hk : 0 < k := by omega
    have := ih (lo + 1) (k - 1) h.2 (fun y hy => by have := h.1 y hy; have := hb y (by simp [hy]); omega)
    simp; omega

/-! ### with -/

theorem loop17d (l : List Int) (n : Int) (hl : l.length ≤ 1000000) : ∀ (k i : Nat) (o : List Int), l.length - i = k → i ≤ l.length → o.length = i + 1 → (∀ x ∈ l.drop i, n < x) → loopO g41 (.h0 l n (i : Int) true o) = some (o ++ l.drop i) := by
  intro k
  induction k with
  | zero =>
    intro i o hk hi ho _
    have : i = l.length := by omega
    subst this
    rw [dropN (Nat.le_refl _)]
    refine loopO_inr ?_
    unfold g41
    rw [opt_f (by simp), opt_f (by rfl), opt_chk (by omega), opt_ret]
    simp
  | succ k ih =>
    intro i o hk hi ho hn
    have hlt : i < l.length := by omega
    have hx : n < l[i] := hn _ (by rw [dropE hlt]; exact List.mem_cons_self)
    rw [dropE hlt]
    refine loopO_inl (s' := .h0 l n ((i + 1 : Nat) : Int) true (o ++ [l[i]])) ?_ ?_
    · unfold g41
      rw [opt_t (by simpa using (by exact_mod_cast hlt : (i : Int) < (l.length : Int))), opt_chk (by omega), opt_get (getO hlt), opt_f (by simp; omega), opt_f (by rfl), opt_chk (by omega), opt_get (getO hlt), opt_chk (by simp), opt_chk (by simp; omega), opt_chk (by trivial), wsucc (by omega), opt_ret]
      simp
    · rw [ih (i + 1) (o ++ [l[i]]) (by omega) (by omega) (by simp [ho]) (fun x hx => hn x (by rw [dropE hlt]; exact List.mem_cons_of_mem _ hx))]
      simp

theorem loop17 (l : List Int) (n : Int) (hu : Up l) (hl : l.length ≤ 1000000) : ∀ (k i : Nat), l.length - i = k → i ≤ l.length → loopO g41 (.h0 l n (i : Int) false (l.take i)) = some (l.take i ++ ins n (l.drop i)) := by
  intro k
  induction k with
  | zero =>
    intro i hk hi
    have : i = l.length := by omega
    subst this
    rw [dropN (Nat.le_refl _)]
    refine loopO_inr ?_
    unfold g41
    rw [opt_f (by simp), opt_t (by rfl), opt_chk (by simp), opt_chk (by simp; omega), opt_chk (by omega), opt_ret, ins, List.take_length]
    simp only [List.drop_zero, List.take_succ_cons, List.take_zero, List.take_length]
  | succ k ih =>
    intro i hk hi
    have hlt : i < l.length := by omega
    have htl : (l.take i).length = i := by simp; omega
    rw [dropE hlt, ins]
    have e0 : (g41 (.h0 l n (i : Int) false (l.take i))).opt = if l[i] = n then some (.inr l) else if n < l[i] then some (.inl (.h0 l n ((i + 1 : Nat) : Int) true (l.take i ++ [n] ++ [l[i]]))) else some (.inl (.h0 l n ((i + 1 : Nat) : Int) false (l.take i ++ [l[i]]))) := by
      unfold g41
      rw [opt_t (by simpa using (by exact_mod_cast hlt : (i : Int) < (l.length : Int))), opt_chk (by omega), opt_get (getO hlt), opt_ite]
      simp only [decide_eq_true_eq]
      split
      · rfl
      · rw [opt_t (by rfl), opt_chk (by omega), opt_get (getO hlt), opt_ite]
        simp only [decide_eq_true_eq]
        split
        · rw [opt_chk (by simp), opt_chk (by simp; omega), opt_chk (by omega), opt_get (getO hlt), opt_chk (by simp), opt_chk (by simp; omega), opt_chk (by trivial), wsucc (by omega), opt_ret]
          rfl
        · rw [opt_chk (by omega), opt_get (getO hlt), opt_chk (by simp), opt_chk (by simp; omega), opt_chk (by trivial), wsucc (by omega), opt_ret]
          rfl
    by_cases h1 : l[i] = n
    · rw [if_pos h1, loopO_inr (x := l) (by rw [e0, if_pos h1])]
      rw [← dropE hlt, List.take_append_drop]
    · rw [if_neg h1]
      by_cases h2 : n < l[i]
      · rw [if_pos h2]
        refine loopO_inl (by rw [e0, if_neg h1, if_pos h2]) ?_
        have hall : ∀ x ∈ l.drop (i + 1), n < x := by
          intro x hx
          have : Up (l.drop i) := List.Pairwise.drop hu
          rw [dropE hlt] at this
          have := (List.pairwise_cons.1 this).1 x hx
          omega
        by_cases hi1 : i + 1 ≤ l.length
        · -- the row so far is one longer than the place
          have := loop17d l n hl _ (i + 1) (l.take i ++ [n] ++ [l[i]]) rfl hi1 (by simp; omega) hall
          rw [this]; simp
        · omega
      · rw [if_neg h2]
        refine loopO_inl (by rw [e0, if_neg h1, if_neg h2]) ?_
        have e1 : l.take i ++ [l[i]] = l.take (i + 1) := by rw [List.take_succ_eq_append_getElem hlt]
        rw [e1, ih (i + 1) (by omega) (by omega), ← e1, List.append_assoc]
        rfl

theorem with17 {l : List Int} (n : Int) (hu : Up l) (hl : l.length ≤ 1000000) : f41 l n = some (ins n l) := by
  unfold f41
  refine runO_inl (s' := .h0 l n ((0 : Nat) : Int) false (l.take 0)) ?_ ?_
  · unfold s41
    rw [opt_chk (by rfl), opt_ret]; rfl
  · rw [loop17 l n hu hl _ 0 rfl (by omega)]; simp

/-! ### where one goes -/

/-- Is a state gone to by a number? -/
def okT (a : Nfa) (n t : Int) : Bool := match a.States[t.toNat]? with
  | some y => decide (y.Switch = 0) || decide (y.Switch = n)
  | none => false

/-- The states to which one goes from one. -/
def goes (a : Nfa) (n s : Int) : List Int := if s < 0 then [] else match a.States[s.toNat]? with
  | some y => y.Next.filter (okT a n)
  | none => []

def stepL (a : Nfa) (set : List Int) (n : Int) : List Int := sorted (set.flatMap (goes a n))

/-- Every number that one goes to is a state's. -/
def InB (a : Nfa) : Prop := ∀ y ∈ a.States, ∀ t ∈ y.Next, 1 ≤ t ∧ t < (a.States.length : Int)

theorem chain_in {n : Int} : ∀ {l : List Int} {last : Int}, chain n last l = true → ∀ t ∈ l, last < t ∧ t < n := by
  intro l
  induction l with
  | nil => intro last _ t ht; simp at ht
  | cons x l ih =>
    intro last h t ht
    simp only [chain, Bool.and_eq_true, decide_eq_true_eq] at h
    rcases List.mem_cons.1 ht with e | e
    · subst e; exact ⟨h.1, h.2.1⟩
    · have := ih h.2.2 t e; omega

theorem right_in {a : Nfa} (h : rightB a = true) : 1 ≤ a.States.length ∧ a.States.length ≤ 64 ∧ InB a := by
  simp only [rightB, Bool.and_eq_true, decide_eq_true_eq] at h
  refine ⟨?_, h.1, fun y hy t ht => ?_⟩
  · have := h.2.1
    generalize a.States = l at this
    cases l with
    | nil => simp [fst0] at this
    | cons s l => simp
  · have := List.all_eq_true.1 h.2.2 y hy
    simp only [okS, Bool.and_eq_true] at this
    have := chain_in this.2.2 t ht
    omega

theorem goes_in {a : Nfa} (h : InB a) {n s t : Int} (ht : t ∈ goes a n s) : 1 ≤ t ∧ t < (a.States.length : Int) := by
  unfold goes at ht
  split at ht
  · simp at ht
  · split at ht
    · rename_i y hy
      exact h y (List.mem_of_getElem? hy) t (List.mem_filter.1 ht).1
    · simp at ht

theorem step_in {a : Nfa} (h : InB a) {n : Int} {set : List Int} {t : Int} (ht : t ∈ stepL a set n) : 1 ≤ t ∧ t < (a.States.length : Int) := by
  obtain ⟨s, _, hs⟩ := List.mem_flatMap.1 (sorted_mem.1 ht)
  exact goes_in h hs

theorem step_len {a : Nfa} (h : rightB a = true) {n : Int} {set : List Int} : (stepL a set n).length ≤ 64 := by
  obtain ⟨h1, h2, h3⟩ := right_in h
  refine up_len _ 0 64 (sorted_up _) fun x hx => ?_
  have := step_in h3 hx
  omega

theorem ins_len {a : Nfa} (h : rightB a = true) {o : List Int} (hu : Up o) (hb : ∀ t ∈ o, 1 ≤ t ∧ t < (a.States.length : Int)) : o.length ≤ 1000000 := by
  obtain ⟨h1, h2, h3⟩ := right_in h
  have := up_len o 0 64 hu fun x hx => by have := hb x hx; omega
  omega

/-- A loop of the document's: what one goes to from one state. -/
theorem loop10b (a : Nfa) (hs : Small a) (hR : rightB a = true) (set : List Int) (n : Int) (y : NfaState) (hy : y ∈ a.States) (s j : Int) (hj : 0 ≤ j) :
    ∀ (k i : Nat) (o : List Int), y.Next.length - i = k → i ≤ y.Next.length → Up o → (∀ t ∈ o, 1 ≤ t ∧ t < (a.States.length : Int)) →
      loopO g43 (.h1 a set n y s j j (i : Int) o) = loopO g43 (.h1 a set n y s j j (y.Next.length : Int) (((y.Next.drop i).filter (okT a n)).foldl (fun a t => ins t a) o)) := by
  intro k
  induction k with
  | zero =>
    intro i o hk hi _ _
    have : i = y.Next.length := by omega
    subst this
    rw [dropN (Nat.le_refl _)]; rfl
  | succ k ih =>
    intro i o hk hi hu hb
    have hlt : i < y.Next.length := by omega
    have hin := (right_in hR).2.2 y hy y.Next[i] (List.getElem_mem hlt)
    have ht : y.Next[i].toNat < a.States.length := by omega
    have hyl := hs.2 y hy
    rw [dropE hlt]
    have hok : okT a n y.Next[i] = (decide (a.States[y.Next[i].toNat].Switch = 0) || decide (a.States[y.Next[i].toNat].Switch = n)) := by
      simp [okT, ht]
    have hw := with17 y.Next[i] hu (ins_len hR hu hb)
    have hg : (g43 (.h1 a set n y s j j (i : Int) o)).opt = some (.inl (.h1 a set n y s j j ((i + 1 : Nat) : Int) (if okT a n y.Next[i] = true then ins y.Next[i] o else o))) := by
      unfold g43
      rw [opt_t (by simpa using (by exact_mod_cast hlt : (i : Int) < (y.Next.length : Int))), opt_chk (by omega), opt_get (getO hlt), opt_chk (by omega), opt_get (List.getElem?_eq_getElem ht), hok]
      by_cases h1 : a.States[y.Next[i].toNat].Switch = 0
      · rw [opt_t (by simpa using h1), opt_chk (by omega), opt_get (getO hlt), opt_get hw, wsucc (by omega), opt_ret, if_pos (by simp [h1])]
      · rw [opt_f (by simpa using h1)]
        by_cases h2 : a.States[y.Next[i].toNat].Switch = n
        · rw [opt_t (by simpa using h2), opt_chk (by omega), opt_get (getO hlt), opt_get hw, wsucc (by omega), opt_ret, if_pos (by simp [h2])]
        · rw [opt_f (by simpa using h2), wsucc (by omega), opt_ret, if_neg (by simp [h1, h2])]
    by_cases hc : okT a n y.Next[i] = true
    · rw [if_pos hc] at hg
      rw [loopO_inl hg (ih (i + 1) _ (by omega) (by omega) (ins_up hu) (fun t ht => by rcases ins_mem.1 ht with e | e; exact e ▸ hin; exact hb t e)), List.filter_cons_of_pos hc]
      rfl
    · rw [if_neg hc] at hg
      rw [loopO_inl hg (ih (i + 1) _ (by omega) (by omega) hu hb), List.filter_cons_of_neg hc]

theorem loop10 (a : Nfa) (hs : Small a) (hR : rightB a = true) (set : List Int) (hset : set.length < 9223372036854775807) (n : Int) :
    ∀ (k i : Nat) (o : List Int), set.length - i = k → i ≤ set.length → Up o → (∀ t ∈ o, 1 ≤ t ∧ t < (a.States.length : Int)) →
      loopO g43 (.h0 a set n (i : Int) o) = some (((set.drop i).flatMap (goes a n)).foldl (fun a t => ins t a) o) := by
  intro k
  induction k with
  | zero =>
    intro i o hk hi _ _
    have : i = set.length := by omega
    subst this
    rw [dropN (Nat.le_refl _)]
    refine loopO_inr ?_
    unfold g43
    rw [opt_f (by simp), opt_ret]; rfl
  | succ k ih =>
    intro i o hk hi hu hb
    have hlt : i < set.length := by omega
    rw [flatE _ hlt, List.foldl_append]
    have hc : decide ((i : Int) < (set.length : Int)) = true := by simpa using hlt
    by_cases h1 : set[i] < 0
    · have hgo : goes a n set[i] = [] := by simp [goes, h1]
      rw [hgo]
      refine loopO_inl ?_ (ih (i + 1) o (by omega) (by omega) hu hb)
      unfold g43
      rw [opt_t hc, opt_chk (by omega), opt_get (getO hlt), opt_t (by simpa using h1), opt_ret, wsucc (by omega)]
    · by_cases h2 : (a.States.length : Int) ≤ set[i]
      · have hgo : goes a n set[i] = [] := by
          have : a.States[set[i].toNat]? = none := by rw [List.getElem?_eq_none_iff]; omega
          simp [goes, this]
        rw [hgo]
        refine loopO_inl ?_ (ih (i + 1) o (by omega) (by omega) hu hb)
        unfold g43
        rw [opt_t hc, opt_chk (by omega), opt_get (getO hlt), opt_f (by simpa using h1), opt_chk (by omega), opt_get (getO hlt), opt_t (by simpa using h2), opt_ret, wsucc (by omega)]
      · have ht : set[i].toNat < a.States.length := by omega
        have hgo : goes a n set[i] = (a.States[set[i].toNat].Next.filter (okT a n)) := by simp [goes, h1, ht]
        have hm := List.getElem_mem ht
        rw [hgo]
        refine loopO_inl (s' := .h1 a set n a.States[set[i].toNat] set[i] (i : Int) (i : Int) ((0 : Nat) : Int) o) ?_ ?_
        · unfold g43
          rw [opt_t hc, opt_chk (by omega), opt_get (getO hlt), opt_f (by simpa using h1), opt_chk (by omega), opt_get (getO hlt), opt_f (by simpa using h2), opt_chk (by omega), opt_get (getO hlt), opt_chk (by omega), opt_get (List.getElem?_eq_getElem ht), opt_ret]
          rfl
        · rw [loop10b a hs hR set n _ hm set[i] (i : Int) (by omega) _ 0 o rfl (by omega) hu hb, List.drop_zero]
          refine loopO_inl (s' := .h0 a set n ((i + 1 : Nat) : Int) _) ?_ (ih (i + 1) _ (by omega) (by omega) (foldl_up _ _ hu) (fun t ht => ?_))
          · unfold g43
            rw [opt_f (by simp), opt_ret, wsucc (by omega)]
          · rcases (foldl_mem _ _).1 ht with e | e
            · exact hb t e
            · exact (right_in hR).2.2 _ hm t (List.mem_filter.1 e).1

theorem step10 (a : Nfa) (hs : Small a) (set : List Int) (hset : set.length < 9223372036854775807) (n : Int) : f43 a set n = some (if rightB a = true then stepL a set n else []) := by
  unfold f43
  by_cases h : rightB a = true
  · rw [if_pos h]
    refine runO_inl (s' := .h0 a set n ((0 : Nat) : Int) []) ?_ ?_
    · unfold s43
      rw [opt_get (right8 a hs), opt_f (by simp [h]), opt_ret]; rfl
    · rw [loop10 a hs h set hset n _ 0 [] rfl (by omega) List.Pairwise.nil (by simp), List.drop_zero]; rfl
  · rw [if_neg h]
    refine runO_inr ?_
    unfold s43
    rw [opt_get (right8 a hs), opt_t (by simp [h]), opt_ret]

/-! ### the program's -/

theorem orbit {m t : Nat} (hm : m < 2 ^ 64) (ht : t < 64) : IntKind.u64.wrap (↑(BitVec.ofInt 64 (m : Int) ||| BitVec.ofInt 64 (IntKind.u64.wrap (1 * 2 ^ Min.min (t : Int).toNat 64))).toNat : Int) = ((m ||| 2 ^ t : Nat) : Int) := by
  have e1 : Min.min (t : Int).toNat 64 = t := by simp; omega
  have h2 : (2 : Nat) ^ t < 2 ^ 64 := Nat.pow_lt_pow_right (by omega) ht
  have e2 : (1 * 2 ^ t : Int) = ((2 ^ t : Nat) : Int) := by simp
  have e4 : IntKind.u64.wrap ((2 ^ t : Nat) : Int) = ((2 ^ t : Nat) : Int) := by
    generalize 2 ^ t = p at h2
    exact wu64 (by omega) (by omega)
  rw [e1, e2, e4]
  have e3 : (BitVec.ofInt 64 (m : Int) ||| BitVec.ofInt 64 ((2 ^ t : Nat) : Int)).toNat = m ||| 2 ^ t := by
    rw [BitVec.ofInt_natCast, BitVec.ofInt_natCast, BitVec.toNat_or, BitVec.toNat_ofNat, BitVec.toNat_ofNat, Nat.mod_eq_of_lt hm, Nat.mod_eq_of_lt h2]
  have h3 : m ||| 2 ^ t < 2 ^ 64 := Nat.or_lt_two_pow hm h2
  rw [e3, wu64 (by omega) (by omega)]

theorem bittest {m k : Nat} (hm : m < 2 ^ 64) (hk : k < 64) : decide (IntKind.u64.wrap (↑(BitVec.ofInt 64 ((m : Int).fdiv (2 ^ Min.min (k : Int).toNat 64)) &&& BitVec.ofInt 64 1).toNat : Int) = 1) = m.testBit k := by
  have e1 : Min.min (k : Int).toNat 64 = k := by simp; omega
  rw [e1, fdivp]
  have e2 : (m : Int) / 2 ^ k = ((m / 2 ^ k : Nat) : Int) := by simp
  have h1 : m / 2 ^ k < 2 ^ 64 := Nat.lt_of_le_of_lt (Nat.div_le_self _ _) hm
  have e3 : (BitVec.ofInt 64 ((m / 2 ^ k : Nat) : Int) &&& BitVec.ofInt 64 1).toNat = m / 2 ^ k % 2 := by
    have : BitVec.ofInt 64 1 = BitVec.ofNat 64 1 := rfl
    rw [this, BitVec.ofInt_natCast, BitVec.toNat_and, BitVec.toNat_ofNat, BitVec.toNat_ofNat, Nat.mod_eq_of_lt h1]
    exact Nat.and_one_is_mod _
  rw [e2, e3, wu64 (by omega) (by omega), Nat.testBit_eq_decide_div_mod_eq]
  have : ((m / 2 ^ k % 2 : Nat) : Int) = 1 ↔ m / 2 ^ k % 2 = 1 := by omega
  simp only [this]

def mark (m : Nat) (t : Int) : Nat := m ||| 2 ^ t.toNat
def mask (l : List Int) (m : Nat) : Nat := l.foldl mark m

theorem mask_lt : ∀ (l : List Int) (m : Nat), m < 2 ^ 64 → (∀ t ∈ l, 0 ≤ t ∧ t < 64) → mask l m < 2 ^ 64 := by
  intro l
  induction l with
  | nil => intro m h _; exact h
  | cons t l ih =>
    intro m h hb
    have := hb t (by simp)
    exact ih _ (Nat.or_lt_two_pow h (Nat.pow_lt_pow_right (by omega) (by omega))) fun t ht => hb t (by simp [ht])

theorem mask_bit {k : Nat} : ∀ (l : List Int) (m : Nat), (∀ t ∈ l, 0 ≤ t) → ((mask l m).testBit k = true ↔ m.testBit k = true ∨ (k : Int) ∈ l) := by
  intro l
  induction l with
  | nil => intro m _; simp [mask]
  | cons t l ih =>
    intro m hb
    have h0 := hb t (by simp)
    show (mask l (mark m t)).testBit k = true ↔ _
    rw [ih _ fun t ht => hb t (by simp [ht]), mark, Nat.testBit_or, Nat.testBit_two_pow, List.mem_cons]
    have : (k : Int) = t ↔ t.toNat = k := by omega
    simp [this, or_assoc]

theorem mask_list {l : List Int} (hb : ∀ t ∈ l, 0 ≤ t ∧ t < 64) : bitsL (mask l 0) 64 = sorted l := by
  refine up_ext (bitsL_up _ _) (sorted_up _) fun x => ?_
  rw [bitsL_mem, sorted_mem]
  constructor
  · rintro ⟨h1, h2, h3⟩
    rcases (mask_bit l 0 fun t ht => (hb t ht).1).1 h3 with h | h
    · simp at h
    · have : ((x.toNat : Nat) : Int) = x := by omega
      rwa [this] at h
  · intro h
    have := hb x h
    refine ⟨this.1, by omega, (mask_bit l 0 fun t ht => (hb t ht).1).2 (.inr ?_)⟩
    have : ((x.toNat : Nat) : Int) = x := by omega
    rwa [this]

theorem loop16c (m : Nat) (hm : m < 2 ^ 64) : ∀ (k i : Nat), 64 - i = k → i ≤ 64 → loopO g67 (.h2 (i : Int) (bitsL m i) (m : Int)) = some (bitsL m 64) := by
  intro k
  induction k with
  | zero =>
    intro i hk hi
    have : i = 64 := by omega
    subst this
    refine loopO_inr ?_
    unfold g67
    rw [opt_f (by rfl), opt_chk (by omega), opt_ret]
    simp
  | succ k ih =>
    intro i hk hi
    have hlt : i < 64 := by omega
    have hlen := bitsL_len m i
    refine loopO_inl ?_ (ih (i + 1) (by omega) (by omega))
    rw [bitsL_succ]
    unfold g67
    rw [opt_t (by simp; omega), opt_chk (by omega), bittest hm hlt]
    by_cases h : m.testBit i = true
    · rw [opt_t h, opt_chk (by simp), opt_chk (by simp; omega), opt_chk (by trivial), opt_ret, wsucc (by omega), if_pos h]
      simp
    · rw [opt_f (by simpa using h), opt_chk (by trivial), opt_ret, wsucc (by omega), if_neg h, List.append_nil]

theorem loop16b (a : Nfa) (hs : Small a) (hR : rightB a = true) (set : List Int) (n : Int) (y : NfaState) (hy : y ∈ a.States) (s j : Int) :
    ∀ (k i m : Nat), y.Next.length - i = k → i ≤ y.Next.length → m < 2 ^ 64 →
      loopO g67 (.h1 a set n y s j (i : Int) (m : Int)) = loopO g67 (.h1 a set n y s j (y.Next.length : Int) ((mask ((y.Next.drop i).filter (okT a n)) m : Nat) : Int)) := by
  intro k
  induction k with
  | zero =>
    intro i m hk hi _
    have : i = y.Next.length := by omega
    subst this
    rw [dropN (Nat.le_refl _)]; rfl
  | succ k ih =>
    intro i m hk hi hm
    have hlt : i < y.Next.length := by omega
    obtain ⟨h64a, h64, hB⟩ := right_in hR
    have hin := hB y hy y.Next[i] (List.getElem_mem hlt)
    have ht : y.Next[i].toNat < a.States.length := by omega
    have hyl := hs.2 y hy
    rw [dropE hlt]
    have hok : okT a n y.Next[i] = (decide (a.States[y.Next[i].toNat].Switch = 0) || decide (a.States[y.Next[i].toNat].Switch = n)) := by
      simp [okT, ht]
    have hor := orbit (t := y.Next[i].toNat) hm (by omega)
    have hcast : ((y.Next[i].toNat : Nat) : Int) = y.Next[i] := by omega
    rw [hcast] at hor
    have hg : (g67 (.h1 a set n y s j (i : Int) (m : Int))).opt = some (.inl (.h1 a set n y s j ((i + 1 : Nat) : Int) ((if okT a n y.Next[i] = true then mark m y.Next[i] else m : Nat) : Int))) := by
      unfold g67
      rw [opt_t (by simpa using (by exact_mod_cast hlt : (i : Int) < (y.Next.length : Int))), opt_chk (by omega), opt_get (getO hlt), opt_chk (by omega), opt_get (List.getElem?_eq_getElem ht), hok, hor]
      by_cases h1 : a.States[y.Next[i].toNat].Switch = 0
      · rw [opt_t (by simpa using h1), opt_chk (by omega), wsucc (by omega), opt_ret, if_pos (by simp [h1])]; rfl
      · rw [opt_f (by simpa using h1)]
        by_cases h2 : a.States[y.Next[i].toNat].Switch = n
        · rw [opt_t (by simpa using h2), opt_chk (by omega), wsucc (by omega), opt_ret, if_pos (by simp [h2])]; rfl
        · rw [opt_f (by simpa using h2), wsucc (by omega), opt_ret, if_neg (by simp [h1, h2])]
    by_cases hc : okT a n y.Next[i] = true
    · rw [if_pos hc] at hg
      rw [loopO_inl hg (ih (i + 1) _ (by omega) (by omega) (Nat.or_lt_two_pow hm (Nat.pow_lt_pow_right (by omega) (by omega)))), List.filter_cons_of_pos hc]
      rfl
    · rw [if_neg hc] at hg
      rw [loopO_inl hg (ih (i + 1) _ (by omega) (by omega) hm), List.filter_cons_of_neg hc]

theorem goes64 {a : Nfa} (hR : rightB a = true) {n s t : Int} (ht : t ∈ goes a n s) : 0 ≤ t ∧ t < 64 := by
  obtain ⟨h1, h2, h3⟩ := right_in hR
  have := goes_in h3 ht
  omega

theorem loop16 (a : Nfa) (hs : Small a) (hR : rightB a = true) (set : List Int) (hset : set.length < 9223372036854775807) (n : Int) :
    ∀ (k i m : Nat), set.length - i = k → i ≤ set.length → m < 2 ^ 64 →
      loopO g67 (.h0 a set n (i : Int) (m : Int)) = some (bitsL (mask ((set.drop i).flatMap (goes a n)) m) 64) := by
  intro k
  induction k with
  | zero =>
    intro i m hk hi hm
    have : i = set.length := by omega
    subst this
    rw [dropN (Nat.le_refl _)]
    refine loopO_inl (s' := .h2 ((0 : Nat) : Int) (bitsL m 0) (m : Int)) ?_ (loop16c m hm _ 0 rfl (by omega))
    unfold g67
    rw [opt_f (by simp), opt_chk (by rfl), opt_ret]; rfl
  | succ k ih =>
    intro i m hk hi hm
    have hlt : i < set.length := by omega
    rw [flatE _ hlt, mask, List.foldl_append]
    have hc : decide ((i : Int) < (set.length : Int)) = true := by simpa using hlt
    by_cases h1 : set[i] < 0
    · have hgo : goes a n set[i] = [] := by simp [goes, h1]
      rw [hgo]
      refine loopO_inl ?_ (ih (i + 1) m (by omega) (by omega) hm)
      unfold g67
      rw [opt_t hc, opt_chk (by omega), opt_get (getO hlt), opt_t (by simpa using h1), opt_ret, wsucc (by omega)]
    · by_cases h2 : (a.States.length : Int) ≤ set[i]
      · have hgo : goes a n set[i] = [] := by
          have : a.States[set[i].toNat]? = none := by rw [List.getElem?_eq_none_iff]; omega
          simp [goes, this]
        rw [hgo]
        refine loopO_inl ?_ (ih (i + 1) m (by omega) (by omega) hm)
        unfold g67
        rw [opt_t hc, opt_chk (by omega), opt_get (getO hlt), opt_f (by simpa using h1), opt_t (by simpa using h2), opt_ret, wsucc (by omega)]
      · have ht : set[i].toNat < a.States.length := by omega
        have hgo : goes a n set[i] = (a.States[set[i].toNat].Next.filter (okT a n)) := by simp [goes, h1, ht]
        have hm' := List.getElem_mem ht
        refine loopO_inl (s' := .h1 a set n a.States[set[i].toNat] set[i] (i : Int) ((0 : Nat) : Int) (m : Int)) ?_ ?_
        · unfold g67
          rw [opt_t hc, opt_chk (by omega), opt_get (getO hlt), opt_f (by simpa using h1), opt_f (by simpa using h2), opt_chk (by omega), opt_get (List.getElem?_eq_getElem ht), opt_ret]
          rfl
        · rw [loop16b a hs hR set n _ hm' set[i] (i : Int) _ 0 m rfl (by omega) hm, List.drop_zero, ← hgo]
          refine loopO_inl (s' := .h0 a set n ((i + 1 : Nat) : Int) _) ?_ (ih (i + 1) _ (by omega) (by omega) (mask_lt _ _ hm fun t ht => goes64 hR ht))
          unfold g67
          rw [opt_f (by simp), opt_ret, wsucc (by omega)]; rfl

theorem step16 (a : Nfa) (hs : Small a) (hR : rightB a = true) (set : List Int) (hset : set.length < 9223372036854775807) (n : Int) : f67 a set n = some (stepL a set n) := by
  unfold f67
  refine runO_inl (s' := .h0 a set n ((0 : Nat) : Int) ((0 : Nat) : Int)) ?_ ?_
  · unfold s67
    rw [opt_ret]; rfl
  · rw [loop16 a hs hR set hset n _ 0 0 rfl (by omega) (by omega), List.drop_zero, mask_list]
    · rfl
    · intro t ht
      obtain ⟨s, _, h⟩ := List.mem_flatMap.1 ht
      exact goes64 hR h

end Go.Proofs.Dfa

/-
  Which sets are ends; which words states have.
-/
namespace Go.Proofs.Dfa
open Go Go.Ab Go.ChangeShapes
set_option linter.unusedVariables false
set_option linter.unusedSimpArgs false
set_option maxRecDepth 100000

/-! ### ends -/

def endB (a : Nfa) (s : Int) : Bool := !decide (s < 0) && match a.States[s.toNat]? with
  | some y => y.Ends
  | none => false
def endsL (a : Nfa) (set : List Int) : Bool := set.any (endB a)

theorem loop18b (a : Nfa) (hs : Small a) (set : List Int) (s j : Int) (r : Option Bool) (hr : loopO g68 (.h1 a set s (a.States.length : Int) j) = r) :
    ∀ (k i : Nat), a.States.length - i = k → i ≤ a.States.length → (s < i ∨ endB a s = false ∨ True) →
      loopO g68 (.h1 a set s (i : Int) j) = if (i : Int) ≤ s ∧ endB a s = true then some true else r := by
  intro k
  induction k with
  | zero =>
    intro i hk hi _
    have : i = a.States.length := by omega
    subst this
    rw [hr, if_neg]
    rintro ⟨h1, h2⟩
    have : a.States[s.toNat]? = none := by rw [List.getElem?_eq_none_iff]; omega
    simp [endB, this] at h2
  | succ k ih =>
    intro i hk hi _
    have hlt : i < a.States.length := by omega
    have hl := hs.1
    have hc : decide ((i : Int) < (a.States.length : Int)) = true := by simpa using hlt
    by_cases h1 : (i : Int) = s
    · by_cases h2 : a.States[i].Ends = true
      · rw [loopO_inr (x := true) (by unfold g68; rw [opt_t hc, opt_chk (by omega), opt_get (getO hlt), opt_t (by simpa using h1), opt_t h2, opt_ret]), if_pos]
        subst h1
        simp [endB, hlt, h2]
      · refine loopO_inl (s' := .h1 a set s ((i + 1 : Nat) : Int) j) ?_ ?_
        · unfold g68
          rw [opt_t hc, opt_chk (by omega), opt_get (getO hlt), opt_t (by simpa using h1), opt_f (by simpa using h2), opt_ret, wsucc (by omega)]
        · rw [ih (i + 1) (by omega) (by omega) (by simp), if_neg (by omega), if_neg]
          rintro ⟨_, h4⟩
          subst h1
          simp [endB, hlt, h2] at h4
    · refine loopO_inl (s' := .h1 a set s ((i + 1 : Nat) : Int) j) ?_ ?_
      · unfold g68
        rw [opt_t hc, opt_chk (by omega), opt_get (getO hlt), opt_f (by simpa using h1), opt_ret, wsucc (by omega)]
      · rw [ih (i + 1) (by omega) (by omega) (by simp)]
        have : ((i + 1 : Nat) : Int) ≤ s ↔ (i : Int) ≤ s := by omega
        simp only [this]

theorem loop18 (a : Nfa) (hs : Small a) (set : List Int) (hset : set.length < 9223372036854775807) : ∀ (k i : Nat), set.length - i = k → i ≤ set.length → loopO g68 (.h0 a set (i : Int)) = some ((set.drop i).any (endB a)) := by
  intro k
  induction k with
  | zero =>
    intro i hk hi
    have : i = set.length := by omega
    subst this
    rw [dropN (Nat.le_refl _)]
    refine loopO_inr ?_
    unfold g68
    rw [opt_f (by simp), opt_ret]; rfl
  | succ k ih =>
    intro i hk hi
    have hlt : i < set.length := by omega
    have hc : decide ((i : Int) < (set.length : Int)) = true := by simpa using hlt
    rw [dropE hlt, List.any_cons]
    refine loopO_inl (s' := .h1 a set set[i] ((0 : Nat) : Int) (i : Int)) ?_ ?_
    · unfold g68
      rw [opt_t hc, opt_chk (by omega), opt_get (getO hlt), opt_ret]; rfl
    · rw [loop18b a hs set set[i] (i : Int) (some ((set.drop (i + 1)).any (endB a))) (loopO_inl (s' := .h0 a set ((i + 1 : Nat) : Int)) (by
        unfold g68
        rw [opt_f (by simp), opt_ret, wsucc (by omega)]) (ih (i + 1) (by omega) (by omega))) _ 0 rfl (by omega) (by simp)]
      by_cases h : endB a set[i] = true
      · have : ((0 : Nat) : Int) ≤ set[i] := by
          simp only [endB, Bool.and_eq_true, Bool.not_eq_true', decide_eq_false_iff_not] at h
          have := h.1; omega
        rw [if_pos ⟨this, h⟩, h]; rfl
      · rw [if_neg (fun x => h x.2)]
        simp at h; rw [h]; rfl

theorem ends18 (a : Nfa) (hs : Small a) (set : List Int) (hset : set.length < 9223372036854775807) : f68 a set = some (endsL a set) := by
  unfold f68
  refine runO_inl (s' := .h0 a set ((0 : Nat) : Int)) ?_ ?_
  · unfold s68
    rw [opt_ret]; rfl
  · rw [loop18 a hs set hset _ 0 rfl (by omega), List.drop_zero]; rfl

theorem ends11 (a : Nfa) (hs : Small a) (set : List Int) (hset : set.length < 9223372036854775807) : f52 a set = some (rightB a && endsL a set) := by
  unfold f52 u52
  rw [opt_get (right7 a hs), opt_ite]
  by_cases h : rightB a = true
  · rw [if_pos h, opt_get (ends18 a hs set hset), opt_ret, h, Bool.true_and]
  · rw [if_neg h, opt_ret]
    simp at h; rw [h, Bool.false_and]

theorem loop12 (a : Nfa) (hs : Small a) (set : List Int) (hset : set.length < 9223372036854775807) : ∀ (k i : Nat), set.length - i = k → i ≤ set.length → loopO g45 (.h0 a set (i : Int)) = some ((set.drop i).any (endB a)) := by
  intro k
  induction k with
  | zero =>
    intro i hk hi
    have : i = set.length := by omega
    subst this
    rw [dropN (Nat.le_refl _)]
    refine loopO_inr ?_
    unfold g45
    rw [opt_f (by simp), opt_ret]; rfl
  | succ k ih =>
    intro i hk hi
    have hlt : i < set.length := by omega
    have hc : decide ((i : Int) < (set.length : Int)) = true := by simpa using hlt
    have hI := ih (i + 1) (by omega) (by omega)
    rw [dropE hlt, List.any_cons]
    by_cases h1 : (0 : Int) ≤ set[i]
    · by_cases h2 : set[i] < (a.States.length : Int)
      · have ht : set[i].toNat < a.States.length := by omega
        have he : endB a set[i] = a.States[set[i].toNat].Ends := by
          have : ¬ set[i] < 0 := by omega
          simp [endB, ht, this]
        by_cases h3 : a.States[set[i].toNat].Ends = true
        · rw [loopO_inr (x := true) (by unfold g45; rw [opt_t hc, opt_chk (by omega), opt_get (getO hlt), opt_t (by simpa using h1), opt_chk (by omega), opt_get (getO hlt), opt_t (by simpa using h2), opt_chk (by omega), opt_get (getO hlt), opt_chk (by omega), opt_get (List.getElem?_eq_getElem ht), opt_t h3, opt_ret]), he, h3]; rfl
        · refine loopO_inl (s' := .h0 a set ((i + 1 : Nat) : Int)) ?_ ?_
          · unfold g45
            rw [opt_t hc, opt_chk (by omega), opt_get (getO hlt), opt_t (by simpa using h1), opt_chk (by omega), opt_get (getO hlt), opt_t (by simpa using h2), opt_chk (by omega), opt_get (getO hlt), opt_chk (by omega), opt_get (List.getElem?_eq_getElem ht), opt_f (by simpa using h3), opt_ret, wsucc (by omega)]
          · simp at h3; rw [hI, he, h3]; rfl
      · have he : endB a set[i] = false := by
          have : a.States[set[i].toNat]? = none := by rw [List.getElem?_eq_none_iff]; omega
          simp [endB, this]
        refine loopO_inl (s' := .h0 a set ((i + 1 : Nat) : Int)) ?_ ?_
        · unfold g45
          rw [opt_t hc, opt_chk (by omega), opt_get (getO hlt), opt_t (by simpa using h1), opt_chk (by omega), opt_get (getO hlt), opt_f (by simpa using h2), opt_ret, wsucc (by omega)]
        · rw [hI, he]; rfl
    · have he : endB a set[i] = false := by
        have : set[i] < 0 := by omega
        simp [endB, this]
      refine loopO_inl (s' := .h0 a set ((i + 1 : Nat) : Int)) ?_ ?_
      · unfold g45
        rw [opt_t hc, opt_chk (by omega), opt_get (getO hlt), opt_f (by simpa using h1), opt_ret, wsucc (by omega)]
      · rw [hI, he]; rfl

theorem ends12 (a : Nfa) (hs : Small a) (set : List Int) (hset : set.length < 9223372036854775807) : f45 a set = some (rightB a && endsL a set) := by
  unfold f45
  by_cases h : rightB a = true
  · refine runO_inl (s' := .h0 a set ((0 : Nat) : Int)) ?_ ?_
    · unfold s45
      rw [opt_get (right8 a hs), opt_f (by simp [h]), opt_ret]; rfl
    · rw [loop12 a hs set hset _ 0 rfl (by omega), List.drop_zero, h]; rfl
  · refine runO_inr ?_
    unfold s45
    simp at h
    rw [opt_get (right8 a hs), opt_t (by simp [h]), opt_ret, h]; rfl

/-! ### rows that are the same -/

theorem loop9 (a : List Int) (ha : a.length < 9223372036854775807) : ∀ (k i : Nat), a.length - i = k → i ≤ a.length → loopO g18 (.h0 a a (i : Int)) = some true := by
  intro k
  induction k with
  | zero =>
    intro i hk hi
    have : i = a.length := by omega
    subst this
    refine loopO_inr ?_
    unfold g18
    rw [opt_f (by simp), opt_ret]
  | succ k ih =>
    intro i hk hi
    have hlt : i < a.length := by omega
    refine loopO_inl ?_ (ih (i + 1) (by omega) (by omega))
    unfold g18
    rw [opt_t (by simpa using hlt), opt_chk (by omega), opt_get (getO hlt), opt_chk (by omega), opt_get (getO hlt), opt_f (by simp), opt_ret, wsucc (by omega)]

theorem ints9 (a : List Int) (ha : a.length < 9223372036854775807) : f18 a a = some true := by
  unfold f18
  refine runO_inl (s' := .h0 a a ((0 : Nat) : Int)) ?_ (loop9 a ha _ 0 rfl (by omega))
  unfold s18
  rw [opt_f (by simp), opt_ret]; rfl

/-! ### the first law -/

def stepR (a : Nfa) (set : List Int) (n : Int) : List Int := if rightB a = true then stepL a set n else []

theorem stepR_len (a : Nfa) (set : List Int) (n : Int) : (stepR a set n).length ≤ 64 := by
  unfold stepR
  split
  · rename_i h; exact step_len h
  · simp

theorem step6 (a : Nfa) (hs : Small a) (set : List Int) (hset : set.length < 9223372036854775807) (n : Int) : f50 a set n = some (stepR a set n) := by
  unfold f50 u50 stepR
  rw [opt_get (right7 a hs)]
  by_cases h : rightB a = true
  · rw [opt_f (by simp [h]), opt_get (step16 a hs h set hset n), opt_ret, if_pos h]
  · rw [opt_t (by simp [h]), opt_ret, if_neg h]

end Go.Proofs.Dfa

/-
  Sets as bits and as rows; the program's machine of states.
-/
namespace Go.Proofs.Dfa
open Go Go.Ab Go.ChangeShapes
set_option linter.unusedVariables false
set_option linter.unusedSimpArgs false
set_option maxRecDepth 100000

/-! ### sets as bits -/

theorem bitsL_inj {m k : Nat} (hm : m < 2 ^ 64) (hk : k < 2 ^ 64) (h : bitsL m 64 = bitsL k 64) : m = k := by
  apply Nat.eq_of_testBit_eq
  intro i
  rcases Nat.lt_or_ge i 64 with hi | hi
  · have e : ((i : Int) ∈ bitsL m 64) ↔ ((i : Int) ∈ bitsL k 64) := by rw [h]
    simp only [bitsL_mem, Int.toNat_natCast, hi, true_and] at e
    have e' : (m.testBit i = true) ↔ (k.testBit i = true) := by simpa using e
    cases h1 : m.testBit i <;> cases h2 : k.testBit i <;> simp_all
  · have : (2 : Nat) ^ 64 ≤ 2 ^ i := Nat.pow_le_pow_right (by omega) hi
    rw [Nat.testBit_lt_two_pow (by omega), Nat.testBit_lt_two_pow (by omega)]

theorem sorted_sorted (l : List Int) : sorted (sorted l) = sorted l := up_ext (sorted_up _) (sorted_up _) fun x => by rw [sorted_mem]

theorem loop49 (l : List Int) (hl : l.length ≤ 1000000) (hb : ∀ t ∈ l, 0 ≤ t ∧ t < 64) : ∀ (k i m : Nat), l.length - i = k → i ≤ l.length → m < 2 ^ 64 → loopO g49 (.h0 l (i : Int) (m : Int)) = some ((mask (l.drop i) m : Nat) : Int) := by
  intro k
  induction k with
  | zero =>
    intro i m hk hi hm
    have : i = l.length := by omega
    subst this
    rw [dropN (Nat.le_refl _)]
    refine loopO_inr ?_
    unfold g49
    rw [opt_f (by simp), opt_ret]; rfl
  | succ k ih =>
    intro i m hk hi hm
    have hlt : i < l.length := by omega
    have h1 := hb _ (List.getElem_mem hlt)
    have hor := orbit (t := l[i].toNat) hm (by omega)
    have hcast : ((l[i].toNat : Nat) : Int) = l[i] := by omega
    rw [hcast] at hor
    rw [dropE hlt]
    refine loopO_inl (s' := .h0 l ((i + 1 : Nat) : Int) ((mark m l[i] : Nat) : Int)) ?_ (ih (i + 1) _ (by omega) (by omega) (Nat.or_lt_two_pow hm (Nat.pow_lt_pow_right (by omega) (by omega))))
    unfold g49
    rw [opt_t (by simpa using (by exact_mod_cast hlt : (i : Int) < (l.length : Int))), opt_chk (by omega), opt_get (getO hlt), opt_chk (by omega), opt_ret, hor, wsucc (by omega)]
    rfl

theorem bits49 (l : List Int) (hl : l.length ≤ 1000000) (hb : ∀ t ∈ l, 0 ≤ t ∧ t < 64) : f49 l = some ((mask l 0 : Nat) : Int) := by
  unfold f49
  refine runO_inl (s' := .h0 l ((0 : Nat) : Int) ((0 : Nat) : Int)) ?_ ?_
  · unfold s49; rw [opt_ret]; rfl
  · rw [loop49 l hl hb _ 0 0 rfl (by omega) (by omega), List.drop_zero]

theorem loop51 (m : Nat) (hm : m < 2 ^ 64) : ∀ (k i : Nat), 64 - i = k → i ≤ 64 → loopO g51 (.h0 (m : Int) (i : Int) (bitsL m i)) = some (bitsL m 64) := by
  intro k
  induction k with
  | zero =>
    intro i hk hi
    have : i = 64 := by omega
    subst this
    refine loopO_inr ?_
    unfold g51
    rw [opt_f (by rfl), opt_chk (by omega), opt_ret]
    simp
  | succ k ih =>
    intro i hk hi
    have hlt : i < 64 := by omega
    have hlen := bitsL_len m i
    refine loopO_inl ?_ (ih (i + 1) (by omega) (by omega))
    rw [bitsL_succ]
    unfold g51
    rw [opt_t (by simp; omega), opt_chk (by omega), bittest hm hlt]
    by_cases h : m.testBit i = true
    · rw [opt_t h, opt_chk (by simp), opt_chk (by simp; omega), opt_chk (by trivial), opt_ret, wsucc (by omega), if_pos h]
      simp
    · rw [opt_f (by simpa using h), opt_chk (by trivial), opt_ret, wsucc (by omega), if_neg h, List.append_nil]

theorem row51 (m : Nat) (hm : m < 2 ^ 64) : f51 (m : Int) = some (bitsL m 64) := by
  unfold f51
  refine runO_inl (s' := .h0 (m : Int) ((0 : Nat) : Int) (bitsL m 0)) ?_ (loop51 m hm _ 0 rfl (by omega))
  unfold s51
  rw [opt_chk (by rfl), opt_ret]; rfl

/-! ### where the sets lead -/

section
variable (a : Nfa) (s : Nat)

def suL (l : List Int) : List (List Int) := (List.range s).map fun (c : Nat) => stepL a l ((c : Int) + 1)
def suM (m : Nat) : List Nat := (List.range s).map fun (c : Nat) => mask (stepL a (bitsL m 64) ((c : Int) + 1)) 0

theorem suL_len (l : List Int) : (suL a s l).length = s := by simp [suL]
theorem suM_len (m : Nat) : (suM a s m).length = s := by simp [suM]
theorem suL_get {l : List Int} {c : Nat} (h : c < (suL a s l).length) : (suL a s l)[c] = stepL a l ((c : Int) + 1) := by simp [suL]
theorem suM_get {m c : Nat} (h : c < (suM a s m).length) : (suM a s m)[c] = mask (stepL a (bitsL m 64) ((c : Int) + 1)) 0 := by simp [suM]
end

variable {a : Nfa} {s : Nat}

theorem step64 (hR : rightB a = true) {set : List Int} {n t : Int} (h : t ∈ stepL a set n) : 0 ≤ t ∧ t < 64 := by
  obtain ⟨h1, h2, h3⟩ := right_in hR
  have := step_in h3 h
  omega

theorem suM_lt (hR : rightB a = true) {m : Nat} : ∀ y ∈ suM a s m, y < 2 ^ 64 := by
  intro y hy
  obtain ⟨c, _, rfl⟩ := List.mem_map.1 hy
  exact mask_lt _ _ (by omega) fun t ht => step64 hR ht

theorem su_same (hR : rightB a = true) (m : Nat) : suL a s (bitsL m 64) = (suM a s m).map (bitsL · 64) := by
  unfold suL suM
  rw [List.map_map]
  apply List.map_congr_left
  intro c _
  show _ = bitsL (mask (stepL a (bitsL m 64) ((c : Int) + 1)) 0) 64
  rw [mask_list fun t ht => step64 hR ht]
  exact (sorted_sorted _).symm

theorem one_set : bitsL 1 64 = [0] := by decide

theorem turnsM_lt (hR : rightB a = true) (t : Nat) : ∀ m ∈ turns (suM a s) 1 t, m < 2 ^ 64 :=
  turns_in (p := fun m => m < 2 ^ 64) (by decide) (fun m _ y hy => suM_lt hR y hy) t

/-! ### the table of places -/

def plcFrom (k : Nat) (l : List Nat) : List (Int × Int) := match l with
  | [] => []
  | m :: l => ((m : Int), (k : Int)) :: plcFrom (k + 1) l
def plc (l : List Nat) : List (Int × Int) := plcFrom 0 l

theorem plc_get (y : Nat) : ∀ (l : List Nat) (k : Nat), mget (plcFrom k l) (y : Int) = if y ∈ l then some ((k + l.idxOf y : Nat) : Int) else none := by
  intro l
  induction l with
  | nil => intro k; rfl
  | cons m l ih =>
    intro k
    rw [plcFrom, mget, List.idxOf_cons]
    by_cases e : m = y
    · subst e; simp
    · have e1 : ¬ (m : Int) = (y : Int) := by omega
      have e2 : (m == y) = false := by simpa using e
      rw [if_neg e1, e2, ih]
      by_cases h : y ∈ l
      · have h' : y ∈ m :: l := by simp [h]
        rw [if_pos h, if_pos h']
        have : k + 1 + List.idxOf y l = k + (List.idxOf y l + 1) := by omega
        simp only [this, cond_false]
      · have h' : y ∉ m :: l := by simp [h]; exact fun e' => e e'.symm
        rw [if_neg h, if_neg h']

theorem plcFrom_app : ∀ (l : List Nat) (k y : Nat), plcFrom k l ++ [((y : Int), ((k + l.length : Nat) : Int))] = plcFrom k (l ++ [y]) := by
  intro l
  induction l with
  | nil => intro k y; simp [plcFrom]
  | cons m l ih =>
    intro k y
    show _ :: (plcFrom (k + 1) l ++ _) = _ :: plcFrom (k + 1) (l ++ [y])
    rw [← ih (k + 1) y]
    have : k + (m :: l).length = k + 1 + l.length := by simp; omega
    rw [this]

theorem plc_has {l : List Nat} {y : Nat} (h : y ∈ l) : mhas (plc l) (y : Int) = true ∧ mget (plc l) (y : Int) = some ((l.idxOf y : Nat) : Int) := by
  have e : mget (plc l) (y : Int) = some ((l.idxOf y : Nat) : Int) := by
    unfold plc; rw [plc_get, if_pos h]; simp
  exact ⟨by unfold mhas; rw [e]; rfl, e⟩

theorem plc_new {l : List Nat} {y : Nat} (h : y ∉ l) : mhas (plc l) (y : Int) = false ∧ mset (plc l) (y : Int) (l.length : Int) = plc (l ++ [y]) := by
  have e : mget (plc l) (y : Int) = none := by unfold plc; rw [plc_get, if_neg h]
  refine ⟨by unfold mhas; rw [e]; rfl, ?_⟩
  rw [mset_none e]
  have := plcFrom_app l 0 y
  simpa [plc] using this

end Go.Proofs.Dfa

/-
  The program's machine of states.
-/
namespace Go.Proofs.Dfa
open Go Go.Ab Go.ChangeShapes
set_option linter.unusedVariables false
set_option linter.unusedSimpArgs false
set_option maxRecDepth 100000

/-- What the machine is, or that there are too many states. -/
def OutM (a : Nfa) (n : Int) (s : Nat) (r : Dfa × Int) : Prop :=
  (Many (suM a s) 1 256 ∧ r = (⟨0, [], []⟩, 44)) ∨
  (∃ T, (turns (suM a s) 1 T).length = T ∧ T ≤ 256 ∧ r = (⟨n, (List.range T).map (turnRow (suM a s) 1), (turns (suM a s) 1 T).map fun m => endsL a (bitsL m 64)⟩, 0))

def castL (l : List Nat) : List Int := l.map Int.ofNat

section
variable {a : Nfa} {n : Int} {s : Nat}

theorem loop13c (hs : Small a) (hR : rightB a = true) (A : List Nat) (hA : ∀ m ∈ A, m < 2 ^ 64) (hl : A.length ≤ 256) (rows : List (List Int)) :
    ∀ (k i : Nat), A.length - i = k → i ≤ A.length → loopO g13 (.h2 a n (i : Int) ((A.take i).map fun m => endsL a (bitsL m 64)) (A.length : Int) rows (castL A)) = some (⟨n, rows, A.map fun m => endsL a (bitsL m 64)⟩, 0) := by
  intro k
  induction k with
  | zero =>
    intro i hk hi
    have : i = A.length := by omega
    subst this
    refine loopO_inr ?_
    unfold g13
    rw [opt_f (by simp), opt_chk (by omega), opt_chk (by omega), opt_ret, List.drop_zero, List.take_length, List.take_length, List.drop_zero, List.take_length]
  | succ k ih =>
    intro i hk hi
    have hlt : i < A.length := by omega
    have hcl : (castL A).length = A.length := by simp [castL]
    have hget : (castL A)[(0 : Nat) + (i : Int).toNat]? = some ((A[i] : Nat) : Int) := by simp [castL, hlt]
    have hb := bitsL_len A[i] 64
    refine loopO_inl ?_ (ih (i + 1) (by omega) (by omega))
    unfold g13
    rw [opt_t (by simpa using hlt), opt_chk (by rw [hcl]; omega), opt_get hget, opt_get (row51 _ (hA _ (List.getElem_mem hlt))), opt_get (ends11 a hs _ (by omega)), opt_chk (by simp), opt_chk (by simp; omega), opt_chk (by trivial), opt_chk (by trivial), opt_ret, wsucc (by omega), hR, Bool.true_and, List.take_succ_eq_append_getElem hlt, List.map_append]
    rfl

theorem set_row {row : List Int} {c s : Nat} (hl : row.length = s) (hc : c < s) {v : Int} (hv : row[c]? = some v) :
    (row.take c ++ List.replicate (s - c) (0 : Int)).set c v = row.take (c + 1) ++ List.replicate (s - (c + 1)) 0 := by
  have e : s - c = (s - (c + 1)) + 1 := by omega
  rw [e, List.replicate_succ, List.set_append, if_neg (by simp; omega)]
  have : c - (row.take c).length = 0 := by simp; omega
  rw [this, List.set_cons_zero]
  have hlt : c < row.length := by omega
  rw [List.getElem?_eq_getElem hlt] at hv
  have hv : row[c] = v := Option.some.inj hv
  rw [List.take_succ_eq_append_getElem hlt, hv]
  simp

/-- The state at a turn's beginning, and in its midst. -/
def st0 (a : Nfa) (n : Int) (s t : Nat) : L13 := .h0 a n (t : Int) ((List.range t).map (turnRow (suM a s) 1)) (castL (turns (suM a s) 1 t)) (plc (turns (suM a s) 1 t))
def st1 (a : Nfa) (n : Int) (s t c : Nat) : L13 :=
  .h1 a n (c : Int) ((turnRow (suM a s) 1 t).take c ++ List.replicate (s - c) 0) (castL (mid (suM a s) 1 t c)) (plc (mid (suM a s) 1 t c)) (t : Int) ((List.range t).map (turnRow (suM a s) 1))

theorem inner13 (hs : Small a) (hR : rightB a = true) (hn : n = (s : Int)) (hs1 : 1 ≤ s) (hs2 : s ≤ 32) {t : Nat} (ht : t < (turns (suM a s) 1 t).length) (ht2 : t ≤ 256)
    (ih : (turns (suM a s) 1 (t + 1)).length ≤ 256 → ∃ r, loopO g13 (st0 a n s (t + 1)) = some r ∧ OutM a n s r) :
    ∀ (k c : Nat), s - c = k → c ≤ s → (mid (suM a s) 1 t c).length ≤ 256 → ∃ r, loopO g13 (st1 a n s t c) = some r ∧ OutM a n s r := by
  have hsl : ∀ m, (suM a s m).length = s := suM_len a s
  have htl := turnRow_len (su := suM a s) (x0 := 1) ht
  rw [hsl] at htl
  have hmlt := turnsM_lt (s := s) hR t
  intro k
  induction k with
  | zero =>
    intro c hk hc hm
    have : c = s := by omega
    subst this
    have hend := mid_end ht (c := c) (by rw [hsl]; omega)
    rw [hend] at hm
    obtain ⟨r, hr, hout⟩ := ih hm
    refine ⟨r, ?_, hout⟩
    refine loopO_inl (s' := st0 a n c (t + 1)) ?_ hr
    unfold st1 st0 g13
    have hrow : (turnRow (suM a c) 1 t).take c ++ List.replicate (c - c) (0 : Int) = turnRow (suM a c) 1 t := by rw [Nat.sub_self, List.replicate_zero, List.append_nil, List.take_of_length_le (by omega)]
    rw [hrow, hend, opt_f (by rw [hn]; simp), opt_chk (by exact ⟨by omega, by rw [Nat.zero_add]; exact Nat.le_refl _⟩), opt_chk (by simp), opt_chk (by simp; omega), opt_chk (by trivial), opt_chk (by trivial), opt_ret, wsucc (by omega), List.range_succ, List.map_append]
    first | rfl | simp
  | succ k ihc =>
    intro c hk hc hm
    have hlt : c < s := by omega
    have hget : (castL (mid (suM a s) 1 t c))[(0 : Nat) + (t : Int).toNat]? = some (((turns (suM a s) 1 t)[t] : Nat) : Int) := by
      simp only [castL, Nat.zero_add, Int.toNat_natCast, List.getElem?_map, mid_get ht c, Option.map_some]; rfl
    have hml : t < (mid (suM a s) 1 t c).length := by have := (mid_len ht c).1; omega
    have hcl : (castL (mid (suM a s) 1 t c)).length = (mid (suM a s) 1 t c).length := by simp [castL]
    have hx := hmlt _ (List.getElem_mem ht)
    have hb := bitsL_len (turns (suM a s) 1 t)[t] 64
    have hstep := step6 a hs (bitsL (turns (suM a s) 1 t)[t] 64) (by omega) ((c : Int) + 1)
    have hst : stepR a (bitsL (turns (suM a s) 1 t)[t] 64) ((c : Int) + 1) = stepL a (bitsL (turns (suM a s) 1 t)[t] 64) ((c : Int) + 1) := by rw [stepR, if_pos hR]
    rw [hst] at hstep
    have h49 := bits49 (stepL a (bitsL (turns (suM a s) 1 t)[t] 64) ((c : Int) + 1)) (by have := step_len hR (set := bitsL (turns (suM a s) 1 t)[t] 64) (n := (c : Int) + 1); omega) (fun t ht => step64 hR ht)
    have hcs : c < (suM a s (turns (suM a s) 1 t)[t]).length := by rw [hsl]; exact hlt
    have hy := suM_get a s hcs
    have hrow := turnRow_get ht hcs
    have hms := mid_succ ht hcs
    rw [hy] at hrow hms
    generalize hyy : mask (stepL a (bitsL (turns (suM a s) 1 t)[t] 64) ((c : Int) + 1)) 0 = y at hrow hms h49
    have hrl : ((turnRow (suM a s) 1 t).take c ++ List.replicate (s - c) (0 : Int)).length = s := by simp; omega
    have hcr : ((turnRow (suM a s) 1 t).take c ++ List.replicate (s - c) (0 : Int))[(0 : Nat) + (c : Int).toNat]? = some (((turnRow (suM a s) 1 t).take c ++ List.replicate (s - c) (0 : Int))[c]'(by omega)) := by simp [hrl, hlt]
    have hsr := set_row htl hlt hrow
    have hz : (0 : Nat) + (c : Int).toNat = c := by simp
    by_cases hin : y ∈ mid (suM a s) 1 t c
    · rw [if_pos hin] at hms
      obtain ⟨p1, p2⟩ := plc_has hin
      obtain ⟨r, hr, hout⟩ := ihc (c + 1) (by omega) (by omega) (by rw [hms]; exact hm)
      refine ⟨r, loopO_inl (s' := st1 a n s t (c + 1)) ?_ hr, hout⟩
      rw [hms] at hsr
      unfold st1 g13
      rw [opt_t (by rw [hn]; simp; omega), opt_chk (by rw [hcl]; omega), opt_get hget, opt_get (row51 _ hx), wsucc (by omega), show (((c + 1 : Nat)) : Int) = (c : Int) + 1 by omega, opt_get hstep, opt_get h49, opt_t p1, opt_get p2, opt_chk (by rw [hrl]; omega), opt_get hcr, opt_chk (by simp), opt_chk (by trivial), opt_ret, hz, hsr, hms]
    · rw [if_neg hin] at hms
      obtain ⟨p1, p2⟩ := plc_new hin
      by_cases h256 : (mid (suM a s) 1 t c).length = 256
      · refine ⟨(⟨0, [], []⟩, 44), loopO_inr ?_, .inl ⟨⟨t + 1, ?_⟩, rfl⟩⟩
        · unfold st1 g13
          rw [opt_t (by rw [hn]; simp; omega), opt_chk (by rw [hcl]; omega), opt_get hget, opt_get (row51 _ hx), wsucc (by omega), show (((c + 1 : Nat)) : Int) = (c : Int) + 1 by omega, opt_get hstep, opt_get h49, opt_f p1, opt_t (by rw [hcl, h256]; rfl), opt_ret]
        · have := (mid_len ht (c + 1)).2
          rw [hms] at this
          simp at this
          omega
      · obtain ⟨r, hr, hout⟩ := ihc (c + 1) (by omega) (by omega) (by rw [hms]; simp; omega)
        refine ⟨r, loopO_inl (s' := st1 a n s t (c + 1)) ?_ hr, hout⟩
        rw [hms, idxOf_new hin] at hsr
        have hcast : castL (mid (suM a s) 1 t c) ++ [(y : Int)] = castL (mid (suM a s) 1 t c ++ [y]) := by simp [castL]
        unfold st1 g13
        rw [opt_t (by rw [hn]; simp; omega), opt_chk (by rw [hcl]; omega), opt_get hget, opt_get (row51 _ hx), wsucc (by omega), show (((c + 1 : Nat)) : Int) = (c : Int) + 1 by omega, opt_get hstep, opt_get h49, opt_f p1, opt_f (by rw [hcl]; simp; omega), opt_chk (by simp), opt_chk (by simp [hcl]; omega), opt_chk (by rw [hrl]; omega), opt_get hcr, opt_chk (by simp), opt_chk (by trivial), opt_ret, hz, hcl, hsr, p2, hms]
        simp [castL]

theorem outer13 (hs : Small a) (hR : rightB a = true) (hn : n = (s : Int)) (hs1 : 1 ≤ s) (hs2 : s ≤ 32) :
    ∀ (k t : Nat), 257 - t = k → t ≤ (turns (suM a s) 1 t).length → (turns (suM a s) 1 t).length ≤ 256 → ∃ r, loopO g13 (st0 a n s t) = some r ∧ OutM a n s r := by
  intro k
  induction k with
  | zero => intro t hk h1 h2; omega
  | succ k ih =>
    intro t hk h1 h2
    have hcl : (castL (turns (suM a s) 1 t)).length = (turns (suM a s) 1 t).length := by simp [castL]
    rcases Nat.lt_or_ge t (turns (suM a s) 1 t).length with hlt | hge
    · have hm0 : mid (suM a s) 1 t 0 = turns (suM a s) 1 t := mid_zero
      obtain ⟨r, hr, hout⟩ := inner13 hs hR hn hs1 hs2 hlt (by omega) (fun h => ih (t + 1) (by omega) (by have := turns_len (su := suM a s) (x0 := 1) t; omega) h) s 0 rfl (by omega) (by rw [hm0]; exact h2)
      refine ⟨r, loopO_inl (s' := st1 a n s t 0) ?_ hr, hout⟩
      unfold st0 st1 g13
      rw [opt_t (by rw [hcl]; simpa using hlt), opt_chk (by rw [hn]; refine ⟨by omega, by omega, ?_⟩; simp; omega), opt_chk (by trivial), opt_chk (by trivial), opt_ret, hm0, hn]
      simp
    · have hT : (turns (suM a s) 1 t).length = t := by omega
      refine ⟨_, loopO_inl (s' := .h2 a n ((0 : Nat) : Int) (((turns (suM a s) 1 t).take 0).map fun m => endsL a (bitsL m 64)) ((turns (suM a s) 1 t).length : Int) ((List.range t).map (turnRow (suM a s) 1)) (castL (turns (suM a s) 1 t))) ?_ (loop13c hs hR _ (turnsM_lt hR t) h2 _ _ 0 rfl (by omega)), .inr ⟨t, hT, by omega, rfl⟩⟩
      unfold st0 g13
      rw [opt_f (by rw [hcl]; simp; omega), opt_chk (by trivial), opt_chk (by rfl), opt_ret, hcl]
      rfl

theorem from13 (hs : Small a) : ∃ r, f13 a n = some r ∧ ((rightB a = true ∧ 1 ≤ n ∧ n ≤ 32 ∧ OutM a n n.toNat r) ∨ (¬ (rightB a = true ∧ 1 ≤ n ∧ n ≤ 32) ∧ r = (⟨0, [], []⟩, 1))) := by
  have bad : ∀ (h : (s13 a n).opt = some (.inr (⟨0, [], []⟩, 1))) (hb : ¬ (rightB a = true ∧ 1 ≤ n ∧ n ≤ 32)), ∃ r, f13 a n = some r ∧ ((rightB a = true ∧ 1 ≤ n ∧ n ≤ 32 ∧ OutM a n n.toNat r) ∨ (¬ (rightB a = true ∧ 1 ≤ n ∧ n ≤ 32) ∧ r = (⟨0, [], []⟩, 1))) :=
    fun h hb => ⟨_, runO_inr h, .inr ⟨hb, rfl⟩⟩
  by_cases hR : rightB a = true
  · by_cases h1 : n < 1
    · refine bad ?_ (by omega)
      unfold s13
      rw [opt_get (right7 a hs), opt_f (by simp [hR]), opt_t (by simpa using h1), opt_ret]
    · by_cases h2 : 32 < n
      · refine bad ?_ (by omega)
        unfold s13
        rw [opt_get (right7 a hs), opt_f (by simp [hR]), opt_f (by simpa using h1), opt_t (by simpa using h2), opt_ret]
      · have hn : n = ((n.toNat : Nat) : Int) := by omega
        obtain ⟨r, hr, hout⟩ := outer13 (a := a) (n := n) (s := n.toNat) hs hR hn (by omega) (by omega) 257 0 rfl (by omega) (by simp [turns])
        refine ⟨r, ?_, .inl ⟨hR, by omega, by omega, hout⟩⟩
        unfold f13
        refine runO_inl (s' := st0 a n n.toNat 0) ?_ hr
        unfold s13
        rw [opt_get (right7 a hs), opt_f (by simp [hR]), opt_f (by simpa using h1), opt_f (by simpa using h2), opt_chk (by rfl), opt_chk (by rfl), opt_ret]
        rfl
  · refine bad ?_ (fun h => hR h.1)
    unfold s13
    rw [opt_get (right7 a hs), opt_t (by simp [hR]), opt_ret]
end

end Go.Proofs.Dfa

/-
  The document's machine of states; they are the same.
-/
namespace Go.Proofs.Dfa
open Go Go.Ab Go.ChangeShapes
set_option linter.unusedVariables false
set_option linter.unusedSimpArgs false
set_option maxRecDepth 100000

/-! ### rows that are the same -/

theorem loop18g (a b : List Int) (hl : a.length = b.length) (ha : a.length < 9223372036854775807) : ∀ (k i : Nat), a.length - i = k → i ≤ a.length → loopO g18 (.h0 a b (i : Int)) = some (decide (a.drop i = b.drop i)) := by
  intro k
  induction k with
  | zero =>
    intro i hk hi
    have : i = a.length := by omega
    subst this
    rw [dropN (Nat.le_refl _), dropN (by omega)]
    refine loopO_inr ?_
    unfold g18
    rw [opt_f (by simp), opt_ret]; rfl
  | succ k ih =>
    intro i hk hi
    have hlt : i < a.length := by omega
    have hlt' : i < b.length := by omega
    rw [dropE hlt, dropE hlt']
    by_cases h : a[i] = b[i]
    · refine loopO_inl (s' := .h0 a b ((i + 1 : Nat) : Int)) ?_ ?_
      · unfold g18
        rw [opt_t (by simpa using hlt), opt_chk (by omega), opt_get (getO hlt), opt_chk (by omega), opt_get (getO hlt'), opt_f (by simp [h]), opt_ret, wsucc (by omega)]
      · rw [ih (i + 1) (by omega) (by omega)]
        have : (a[i] :: a.drop (i + 1) = b[i] :: b.drop (i + 1)) ↔ (a.drop (i + 1) = b.drop (i + 1)) := by
          rw [List.cons.injEq]
          exact ⟨fun h' => h'.2, fun h' => ⟨h, h'⟩⟩
        exact congrArg some (decide_eq_decide.2 this.symm)
    · rw [loopO_inr (x := false) (by
        unfold g18
        rw [opt_t (by simpa using hlt), opt_chk (by omega), opt_get (getO hlt), opt_chk (by omega), opt_get (getO hlt'), opt_t (by simp [h]), opt_ret])]
      have : ¬ (a[i] :: a.drop (i + 1) = b[i] :: b.drop (i + 1)) := fun h' => h (List.cons.inj h').1
      rw [decide_eq_false this]

theorem ints18 (a b : List Int) (ha : a.length < 9223372036854775807) : f18 a b = some (decide (a = b)) := by
  unfold f18
  by_cases hl : a.length = b.length
  · refine runO_inl (s' := .h0 a b ((0 : Nat) : Int)) ?_ ?_
    · unfold s18
      rw [opt_f (by simp [hl]), opt_ret]; rfl
    · rw [loop18g a b hl ha _ 0 rfl (by omega)]; simp
  · have : a ≠ b := fun h => hl (by rw [h])
    rw [runO_inr (x := false) (by unfold s18; rw [opt_t (by simp; omega), opt_ret])]
    simp [this]

/-! ### machines that are the same -/

theorem loop14b (d : Dfa) (hd : d.Ends.length < 9223372036854775807) : ∀ (k i : Nat), d.Ends.length - i = k → i ≤ d.Ends.length → loopO g14 (.h1 d d (i : Int)) = some true := by
  intro k
  induction k with
  | zero =>
    intro i hk hi
    have : i = d.Ends.length := by omega
    subst this
    refine loopO_inr ?_
    unfold g14
    rw [opt_f (by simp), opt_ret]
  | succ k ih =>
    intro i hk hi
    have hlt : i < d.Ends.length := by omega
    refine loopO_inl ?_ (ih (i + 1) (by omega) (by omega))
    unfold g14
    rw [opt_t (by simpa using hlt), opt_chk (by omega), opt_get (getO hlt), opt_chk (by omega), opt_get (getO hlt), opt_f (by cases d.Ends[i] <;> rfl), opt_ret, wsucc (by omega)]

theorem loop14 (d : Dfa) (hd : d.Ends.length < 9223372036854775807) (hn : d.Next.length < 9223372036854775807) (hr : ∀ r ∈ d.Next, r.length < 9223372036854775807) :
    ∀ (k i : Nat), d.Next.length - i = k → i ≤ d.Next.length → loopO g14 (.h0 d d (i : Int)) = some true := by
  intro k
  induction k with
  | zero =>
    intro i hk hi
    have : i = d.Next.length := by omega
    subst this
    refine loopO_inl (s' := .h1 d d ((0 : Nat) : Int)) ?_ (loop14b d hd _ 0 rfl (by omega))
    unfold g14
    rw [opt_f (by simp), opt_ret]; rfl
  | succ k ih =>
    intro i hk hi
    have hlt : i < d.Next.length := by omega
    refine loopO_inl ?_ (ih (i + 1) (by omega) (by omega))
    unfold g14
    rw [opt_t (by simpa using hlt), opt_chk (by omega), opt_get (getO hlt), opt_chk (by omega), opt_get (getO hlt), opt_get (ints18 _ _ (hr _ (List.getElem_mem hlt))), opt_f (by simp), opt_ret, wsucc (by omega)]

theorem alike14 (d : Dfa) (hd : d.Ends.length < 9223372036854775807) (hn : d.Next.length < 9223372036854775807) (hr : ∀ r ∈ d.Next, r.length < 9223372036854775807) : f14 d d = some true := by
  unfold f14
  refine runO_inl (s' := .h0 d d ((0 : Nat) : Int)) ?_ (loop14 d hd hn hr _ 0 rfl (by omega))
  unfold s14
  rw [opt_f (by simp), opt_f (by simp), opt_f (by simp), opt_ret]; rfl

/-! ### the document's machine -/

/-- The place of a row among rows. -/
def idx (l : List (List Int)) (y : List Int) : Nat := @List.idxOf _ instBEqOfDecidableEq y l

def OutL (a : Nfa) (n : Int) (s : Nat) (r : Dfa × Int) : Prop :=
  (Many (suL a s) [0] 256 ∧ r = (⟨0, [], []⟩, 44)) ∨
  (∃ T, (turns (suL a s) [0] T).length = T ∧ T ≤ 256 ∧ r = (⟨n, (List.range T).map (turnRow (suL a s) [0]), (turns (suL a s) [0] T).map (endsL a)⟩, 0))

section
variable {a : Nfa} {n : Int} {s : Nat}

def rt0 (a : Nfa) (n : Int) (s t : Nat) : L12 := .h0 a n (t : Int) ((List.range t).map (turnRow (suL a s) [0])) (((turns (suL a s) [0] t).take t).map (endsL a)) (turns (suL a s) [0] t)
def rt1 (a : Nfa) (n : Int) (s t c : Nat) : L12 :=
  .h1 a n (((c + 1 : Nat)) : Int) ((turnRow (suL a s) [0] t).take c) (mid (suL a s) [0] t c) (t : Int) ((List.range t).map (turnRow (suL a s) [0])) (((turns (suL a s) [0] t).take t).map (endsL a))
def rt2 (a : Nfa) (n : Int) (s t c i : Nat) (y : List Int) : L12 :=
  .h2 a n y (i : Int) (t : Int) (((c + 1 : Nat)) : Int) (mid (suL a s) [0] t c) ((List.range t).map (turnRow (suL a s) [0])) (((turns (suL a s) [0] t).take t).map (endsL a)) ((turnRow (suL a s) [0] t).take c)

theorem turnsL_len (hR : rightB a = true) (t : Nat) : ∀ l ∈ turns (suL a s) [0] t, l.length ≤ 64 :=
  turns_in (p := fun (l : List Int) => l.length ≤ 64) (by simp) (fun l _ y hy => by
    obtain ⟨c, _, rfl⟩ := List.mem_map.1 hy
    exact step_len hR) t

theorem mid_in {su : List Int → List (List Int)} {x0 : List Int} {p : List Int → Prop} (h0 : p x0) (hs : ∀ x, p x → ∀ y ∈ su x, p y) {t : Nat} (ht : t < (turns su x0 t).length) (c : Nat) : ∀ x ∈ mid su x0 t c, p x := by
  intro x hx
  obtain ⟨e, he⟩ := mid_pre ht c
  exact turns_in h0 hs (t + 1) x (by rw [he]; simp [hx])

theorem find12 (hn0 : n = (s : Int)) (hs2 : s ≤ 32) {t c : Nat} (hc : c < s) (ht : t ≤ 256) (y : List Int) (hA : ∀ l ∈ mid (suL a s) [0] t c, l.length ≤ 64) (hl : (mid (suL a s) [0] t c).length ≤ 256) (htl : c < (turnRow (suL a s) [0] t).length) (r : Option (Dfa × Int))
    (h1 : y ∈ mid (suL a s) [0] t c → loopO g12 (.h1 a n (((c + 1 + 1 : Nat)) : Int) ((turnRow (suL a s) [0] t).take c ++ [((idx (mid (suL a s) [0] t c) y : Nat) : Int)]) (mid (suL a s) [0] t c) (t : Int) ((List.range t).map (turnRow (suL a s) [0])) (((turns (suL a s) [0] t).take t).map (endsL a))) = r)
    (h2 : y ∉ mid (suL a s) [0] t c → (mid (suL a s) [0] t c).length < 256 → loopO g12 (.h1 a n (((c + 1 + 1 : Nat)) : Int) ((turnRow (suL a s) [0] t).take c ++ [((mid (suL a s) [0] t c).length : Int)]) (mid (suL a s) [0] t c ++ [y]) (t : Int) ((List.range t).map (turnRow (suL a s) [0])) (((turns (suL a s) [0] t).take t).map (endsL a))) = r)
    (h3 : y ∉ mid (suL a s) [0] t c → (mid (suL a s) [0] t c).length = 256 → some (⟨0, [], []⟩, 44) = r) :
    ∀ (k i : Nat), (mid (suL a s) [0] t c).length - i = k → i ≤ (mid (suL a s) [0] t c).length → y ∉ (mid (suL a s) [0] t c).take i → loopO g12 (rt2 a n s t c i y) = r := by
  have hrl : ((turnRow (suL a s) [0] t).take c).length = c := by simp; omega
  intro k
  induction k with
  | zero =>
    intro i hk hi hy
    have : i = (mid (suL a s) [0] t c).length := by omega
    subst this
    rw [List.take_length] at hy
    by_cases h256 : (mid (suL a s) [0] t c).length = 256
    · rw [← h3 hy h256]
      refine loopO_inr ?_
      unfold rt2 g12
      rw [opt_f (by simp), opt_t (by decide), opt_chk (by simp), opt_chk (by simp; omega), opt_t (by simp; omega), opt_ret]
    · refine loopO_inl ?_ (h2 hy (by omega))
      unfold rt2 g12
      rw [opt_f (by simp), opt_t (by decide), opt_chk (by simp), opt_chk (by simp; omega), opt_f (by simp; omega), opt_chk (by simp), opt_chk (by simp; omega), opt_chk (by trivial), opt_chk (by trivial), opt_ret, wsucc (by omega)]
      rfl
  | succ k ih =>
    intro i hk hi hy
    have hlt : i < (mid (suL a s) [0] t c).length := by omega
    have hget : (mid (suL a s) [0] t c)[(0 : Nat) + (i : Int).toNat]? = some (mid (suL a s) [0] t c)[i] := by simp [hlt]
    have hA' := hA _ (List.getElem_mem hlt)
    by_cases he : (mid (suL a s) [0] t c)[i] = y
    · have hmem : y ∈ mid (suL a s) [0] t c := he ▸ List.getElem_mem hlt
      have hidx : idx (mid (suL a s) [0] t c) y = i := by
        exact idxOf_at hlt he hy
      have h1' := h1 hmem
      rw [hidx] at h1'
      refine loopO_inl ?_ h1'
      unfold rt2 g12
      rw [opt_t (by simpa using hlt), opt_chk (by omega), opt_get hget, opt_get (ints18 _ _ (by omega)), opt_t (by simp [he]), opt_f (by simp), opt_f (by simp; omega), opt_chk (by simp), opt_chk (by simp; omega), opt_chk (by trivial), opt_chk (by trivial), opt_ret, wsucc (by omega)]
      rfl
    · refine loopO_inl (s' := rt2 a n s t c (i + 1) y) ?_ (ih (i + 1) (by omega) (by omega) ?_)
      · unfold rt2 g12
        rw [opt_t (by simpa using hlt), opt_chk (by omega), opt_get hget, opt_get (ints18 _ _ (by omega)), opt_f (by simp [he]), opt_chk (by trivial), opt_ret, wsucc (by omega)]
      · rw [List.take_succ_eq_append_getElem hlt]
        intro h
        rcases List.mem_append.1 h with h | h
        · exact hy h
        · simp at h; exact he h.symm

theorem inner12 (hs : Small a) (hR : rightB a = true) (hn : n = (s : Int)) (hs1 : 1 ≤ s) (hs2 : s ≤ 32) {t : Nat} (ht : t < (turns (suL a s) [0] t).length) (ht2 : t ≤ 256)
    (ih : (turns (suL a s) [0] (t + 1)).length ≤ 256 → ∃ r, loopO g12 (rt0 a n s (t + 1)) = some r ∧ OutL a n s r) :
    ∀ (k c : Nat), s - c = k → c ≤ s → (mid (suL a s) [0] t c).length ≤ 256 → ∃ r, loopO g12 (rt1 a n s t c) = some r ∧ OutL a n s r := by
  have hsl : ∀ m, (suL a s m).length = s := suL_len a s
  have htl := turnRow_len (su := suL a s) (x0 := [0]) ht
  rw [hsl] at htl
  have hin0 : ∀ (x : List Int), x.length ≤ 64 → ∀ y ∈ suL a s x, y.length ≤ 64 := by
    intro x _ y hy
    obtain ⟨c, _, rfl⟩ := List.mem_map.1 hy
    exact step_len hR
  intro k
  induction k with
  | zero =>
    intro c hk hc hm
    have : c = s := by omega
    subst this
    have hend := mid_end ht (c := c) (by rw [hsl]; omega)
    have hgt := mid_get ht c
    have hml := (mid_len ht c).1
    rw [hend] at hm hgt hml
    obtain ⟨r, hr, hout⟩ := ih hm
    refine ⟨r, ?_, hout⟩
    refine loopO_inl (s' := rt0 a n c (t + 1)) ?_ hr
    have hrow : (turnRow (suL a c) [0] t).take c = turnRow (suL a c) [0] t := List.take_of_length_le (by omega)
    have hget : (turns (suL a c) [0] (t + 1))[(0 : Nat) + (t : Int).toNat]? = some (turns (suL a c) [0] t)[t] := by rw [Nat.zero_add, Int.toNat_natCast]; exact hgt
    have hx := turnsL_len (s := c) hR t _ (List.getElem_mem ht)
    have hend' : ((turns (suL a c) [0] t).take t).map (endsL a) ++ [endsL a (turns (suL a c) [0] t)[t]] = ((turns (suL a c) [0] (t + 1)).take (t + 1)).map (endsL a) := by
      have hlt1 : t < (turns (suL a c) [0] (t + 1)).length := by omega
      rw [List.take_succ_eq_append_getElem hlt1, List.map_append]
      have e1 : (turns (suL a c) [0] (t + 1)).take t = (turns (suL a c) [0] t).take t := by
        rw [turns_succ ht]
        obtain ⟨e, he⟩ := onceOn_pre (l := suL a c (turns (suL a c) [0] t)[t]) (D := turns (suL a c) [0] t)
        rw [he, List.take_append_of_le_length (by omega)]
      have e2 : (turns (suL a c) [0] (t + 1))[t] = (turns (suL a c) [0] t)[t] := by
        rw [List.getElem?_eq_getElem hlt1] at hgt
        exact Option.some.inj hgt
      rw [e1, e2]; rfl
    unfold rt1 rt0 g12
    rw [hrow, hend, opt_f (by rw [hn]; simp; omega), opt_chk (by omega), opt_get hget, opt_get (ends12 a hs _ (by omega)), opt_chk (by exact ⟨by omega, by rw [Nat.zero_add]; exact Nat.le_refl _⟩), opt_chk (by simp), opt_chk (by simp; omega), opt_chk (by simp), opt_chk (by simp; omega), opt_chk (by trivial), opt_chk (by trivial), opt_chk (by trivial), opt_ret, wsucc (by omega), hR, Bool.true_and, List.range_succ, List.map_append, ← hend']
    first | rfl | simp
  | succ k ihc =>
    intro c hk hc hm
    have hlt : c < s := by omega
    have hml := (mid_len ht c).1
    have hget : (mid (suL a s) [0] t c)[(0 : Nat) + (t : Int).toNat]? = some (turns (suL a s) [0] t)[t] := by rw [Nat.zero_add, Int.toNat_natCast]; exact mid_get ht c
    have hx := turnsL_len (s := s) hR t _ (List.getElem_mem ht)
    have hstep := step10 a hs (turns (suL a s) [0] t)[t] (by omega) ((c : Int) + 1)
    rw [if_pos hR] at hstep
    have hcs : c < (suL a s (turns (suL a s) [0] t)[t]).length := by rw [hsl]; exact hlt
    have hy := suL_get a s hcs
    have hrow := turnRow_get ht hcs
    have hms := mid_succ ht hcs
    rw [hy] at hrow hms
    generalize hyy : stepL a (turns (suL a s) [0] t)[t] ((c : Int) + 1) = y at hrow hms hstep
    have hrt : (turnRow (suL a s) [0] t).take (c + 1) = (turnRow (suL a s) [0] t).take c ++ [((idx (mid (suL a s) [0] t (c + 1)) y : Nat) : Int)] := by
      have hlt2 : c < (turnRow (suL a s) [0] t).length := by omega
      rw [List.take_succ_eq_append_getElem hlt2]
      rw [List.getElem?_eq_getElem hlt2] at hrow
      rw [Option.some.inj hrow]
      rfl
    have hgo : (g12 (rt1 a n s t c)).opt = some (.inl (rt2 a n s t c 0 y)) := by
      unfold rt1 rt2 g12
      rw [opt_t (by rw [hn]; simp; omega), opt_chk (by omega), opt_get hget, show (((c + 1 : Nat)) : Int) = (c : Int) + 1 by omega, opt_get hstep, opt_chk (by trivial), opt_ret]
      rfl
    have hAll := mid_in (su := suL a s) (x0 := [0]) (p := fun (l : List Int) => l.length ≤ 64) (by simp) hin0 ht c
    by_cases hin : y ∈ mid (suL a s) [0] t c
    · rw [if_pos hin] at hms
      obtain ⟨r, hr, hout⟩ := ihc (c + 1) (by omega) (by omega) (by rw [hms]; exact hm)
      refine ⟨r, loopO_inl hgo ?_, hout⟩
      refine find12 hn hs2 hlt ht2 y hAll hm (by omega) (some r) (fun _ => ?_) (fun h => absurd hin h) (fun h => absurd hin h) _ 0 rfl (by omega) (by simp)
      rw [← hr]
      unfold rt1
      rw [hrt, hms]
    · rw [if_neg hin] at hms
      by_cases h256 : (mid (suL a s) [0] t c).length = 256
      · refine ⟨(⟨0, [], []⟩, 44), loopO_inl hgo (find12 hn hs2 hlt ht2 y hAll hm (by omega) _ (fun h => absurd h hin) (fun _ h => by omega) (fun _ _ => rfl) _ 0 rfl (by omega) (by simp)), .inl ⟨⟨t + 1, ?_⟩, rfl⟩⟩
        have := (mid_len ht (c + 1)).2
        rw [hms] at this
        simp at this
        omega
      · obtain ⟨r, hr, hout⟩ := ihc (c + 1) (by omega) (by omega) (by rw [hms]; simp; omega)
        refine ⟨r, loopO_inl hgo ?_, hout⟩
        refine find12 hn hs2 hlt ht2 y hAll hm (by omega) (some r) (fun h => absurd h hin) (fun _ _ => ?_) (fun _ h => absurd h h256) _ 0 rfl (by omega) (by simp)
        rw [← hr]
        unfold rt1
        have hnew : idx (mid (suL a s) [0] t c ++ [y]) y = (mid (suL a s) [0] t c).length := idxOf_new hin
        rw [hrt, hms, hnew]

theorem outer12 (hs : Small a) (hR : rightB a = true) (hn : n = (s : Int)) (hs1 : 1 ≤ s) (hs2 : s ≤ 32) :
    ∀ (k t : Nat), 257 - t = k → t ≤ (turns (suL a s) [0] t).length → (turns (suL a s) [0] t).length ≤ 256 → ∃ r, loopO g12 (rt0 a n s t) = some r ∧ OutL a n s r := by
  intro k
  induction k with
  | zero => intro t hk h1 h2; omega
  | succ k ih =>
    intro t hk h1 h2
    rcases Nat.lt_or_ge t (turns (suL a s) [0] t).length with hlt | hge
    · have hm0 : mid (suL a s) [0] t 0 = turns (suL a s) [0] t := mid_zero
      obtain ⟨r, hr, hout⟩ := inner12 hs hR hn hs1 hs2 hlt (by omega) (fun h => ih (t + 1) (by omega) (by have := turns_len (su := suL a s) (x0 := [0]) t; omega) h) s 0 rfl (by omega) (by rw [hm0]; exact h2)
      refine ⟨r, loopO_inl (s' := rt1 a n s t 0) ?_ hr, hout⟩
      unfold rt0 rt1 g12
      rw [opt_t (by simpa using hlt), opt_chk (by trivial), opt_chk (by rfl), opt_ret, hm0]
      rfl
    · have hT : (turns (suL a s) [0] t).length = t := by omega
      refine ⟨_, loopO_inr ?_, .inr ⟨t, hT, by omega, rfl⟩⟩
      unfold rt0 g12
      rw [opt_f (by simp; omega), opt_chk (by omega), opt_chk (by omega), opt_ret, List.drop_zero, List.take_length, List.drop_zero, List.take_length, List.take_of_length_le (by omega)]

theorem from12 (hs : Small a) : ∃ r, f12 a n = some r ∧ ((rightB a = true ∧ 1 ≤ n ∧ n ≤ 32 ∧ OutL a n n.toNat r) ∨ (¬ (rightB a = true ∧ 1 ≤ n ∧ n ≤ 32) ∧ r = (⟨0, [], []⟩, 1))) := by
  have bad : ∀ (h : (s12 a n).opt = some (.inr (⟨0, [], []⟩, 1))) (hb : ¬ (rightB a = true ∧ 1 ≤ n ∧ n ≤ 32)), ∃ r, f12 a n = some r ∧ ((rightB a = true ∧ 1 ≤ n ∧ n ≤ 32 ∧ OutL a n n.toNat r) ∨ (¬ (rightB a = true ∧ 1 ≤ n ∧ n ≤ 32) ∧ r = (⟨0, [], []⟩, 1))) :=
    fun h hb => ⟨_, runO_inr h, .inr ⟨hb, rfl⟩⟩
  by_cases hR : rightB a = true
  · by_cases h1 : n < 1
    · refine bad ?_ (by omega)
      unfold s12
      rw [opt_get (right8 a hs), opt_f (by simp [hR]), opt_t (by simpa using h1), opt_ret]
    · by_cases h2 : 32 < n
      · refine bad ?_ (by omega)
        unfold s12
        rw [opt_get (right8 a hs), opt_f (by simp [hR]), opt_f (by simpa using h1), opt_t (by simpa using h2), opt_ret]
      · have hn : n = ((n.toNat : Nat) : Int) := by omega
        obtain ⟨r, hr, hout⟩ := outer12 (a := a) (n := n) (s := n.toNat) hs hR hn (by omega) (by omega) 257 0 rfl (by omega) (by simp [turns])
        refine ⟨r, ?_, .inl ⟨hR, by omega, by omega, hout⟩⟩
        unfold f12
        refine runO_inl (s' := rt0 a n n.toNat 0) ?_ hr
        unfold s12
        rw [opt_get (right8 a hs), opt_f (by simp [hR]), opt_f (by simpa using h1), opt_f (by simpa using h2), opt_chk (by exact Nat.le_refl 1), opt_chk (by rfl), opt_chk (by rfl), opt_chk (by rfl), opt_ret]
        rfl
  · refine bad ?_ (fun h => hR h.1)
    unfold s12
    rw [opt_get (right8 a hs), opt_t (by simp [hR]), opt_ret]

theorem out_same (hR : rightB a = true) {r q : Dfa × Int} (h1 : OutM a n s r) (h2 : OutL a n s q) : r = q := by
  have h0 : (fun (m : Nat) => m < 2 ^ 64) 1 := by decide
  have hs : ∀ (x : Nat), x < 2 ^ 64 → ∀ y ∈ suM a s x, y < 2 ^ 64 := fun x _ y hy => suM_lt hR y hy
  have hi : ∀ (x y : Nat), x < 2 ^ 64 → y < 2 ^ 64 → bitsL x 64 = bitsL y 64 → x = y := fun x y hx hy h => bitsL_inj hx hy h
  have hc : ∀ (x : Nat), x < 2 ^ 64 → suL a s (bitsL x 64) = (suM a s x).map (bitsL · 64) := fun x _ => su_same hR x
  have hmany := many_map (φ := (bitsL · 64)) (p := fun (m : Nat) => m < 2 ^ 64) h0 hs hi hc 256
  have hturn := turns_map (φ := (bitsL · 64)) (p := fun (m : Nat) => m < 2 ^ 64) h0 hs hi hc
  have hrow := turnRow_map (φ := (bitsL · 64)) (p := fun (m : Nat) => m < 2 ^ 64) h0 hs hi hc
  simp only [one_set] at hmany hturn hrow
  rcases h1 with ⟨m1, rfl⟩ | ⟨T, t1, t2, rfl⟩
  · rcases h2 with ⟨_, rfl⟩ | ⟨U, u1, u2, rfl⟩
    · rfl
    · exact absurd (hmany.2 m1) (not_many (t := U) (by omega) (by omega))
  · rcases h2 with ⟨m2, rfl⟩ | ⟨U, u1, u2, rfl⟩
    · exact absurd (hmany.1 m2) (not_many (t := T) (by omega) (by omega))
    · have hU : (turns (suM a s) 1 U).length = U := by rw [hturn, List.length_map] at u1; exact u1
      have e : T = U := by
        rcases Nat.le_total T U with h | h
        · obtain ⟨d, rfl⟩ := Nat.le.dest h
          have := turns_stop (su := suM a s) (x0 := 1) (t := T) (by omega) d
          rw [this] at hU; omega
        · obtain ⟨d, rfl⟩ := Nat.le.dest h
          have := turns_stop (su := suM a s) (x0 := 1) (t := U) (by omega) d
          rw [this] at t1; omega
      subst e
      have e1 : (List.range T).map (turnRow (suL a s) [0]) = (List.range T).map (turnRow (suM a s) 1) := List.map_congr_left fun t _ => hrow t
      rw [e1, hturn, List.map_map]
      rfl
end

theorem raw4 (a : Nfa) (hs : Small a) (n : Int) : f4 a n = some true := by
  obtain ⟨r, hr, h1⟩ := from13 (a := a) (n := n) hs
  obtain ⟨q, hq, h2⟩ := from12 (a := a) (n := n) hs
  have e : r = q := by
    rcases h1 with ⟨k1, k2, k3, h1⟩ | ⟨k1, rfl⟩
    · rcases h2 with ⟨_, _, _, h2⟩ | ⟨m1, _⟩
      · exact out_same k1 h1 h2
      · exact absurd ⟨k1, k2, k3⟩ m1
    · rcases h2 with ⟨m1, m2, m3, _⟩ | ⟨_, rfl⟩
      · exact absurd ⟨m1, m2, m3⟩ k1
      · rfl
  subst e
  have hal : f14 r.1 r.1 = some true := by
    have small : r.1.Ends.length ≤ 256 ∧ r.1.Next.length ≤ 256 ∧ ∀ x ∈ r.1.Next, x.length ≤ 32 := by
      rcases h1 with ⟨k1, k2, k3, h1⟩ | ⟨_, rfl⟩
      · rcases h1 with ⟨_, rfl⟩ | ⟨T, t1, t2, rfl⟩
        · simp
        · refine ⟨by simp; omega, by simp; omega, fun x hx => ?_⟩
          obtain ⟨t, ht, rfl⟩ := List.mem_map.1 hx
          have ht := List.mem_range.1 ht
          unfold turnRow
          split
          · simp [suM]; omega
          · simp
      · simp
    exact alike14 _ (by omega) (by omega) (fun x hx => by have := small.2.2 x hx; omega)
  unfold f4 u4
  rw [opt_get hq, opt_get hr, opt_t (by simp), opt_get hal, opt_t rfl, opt_ret]

end Go.Proofs.Dfa

/-
  The law of raw states.
-/
namespace Go.Proofs.Dfa
open Go Go.Ab Go.ChangeShapes
set_option linter.unusedVariables false

theorem small_of {a : Nfa} (h : wf_30 a) : Small a := by
  have hr : reachBytes < 9223372036854775807 := by decide
  have h0 := h.1
  refine ⟨by omega, fun s hs => ?_⟩
  have := (h.2 s hs).2.2.1
  omega

theorem law4 {p : Prop} (a : Nfa) (n : Int) (ha : wf_30 a) (hn : p) : f4 a n = some true := raw4 a (small_of ha) n

end Go.Proofs.Dfa
