/- A part of a law's proof: DfaKey. -/
import Derived.Lib.ItoaNum
set_option linter.unusedVariables false
set_option linter.unusedSimpArgs false
set_option linter.constructorNameAsVariable false
/-
  Numerals with blanks between them tell their numbers.
-/
namespace Go.Proofs.Dfa
open Go
def isDig (c : UInt8) : Prop := 48 <= c.toNat ∧ c.toNat <= 57
def dval (l : List UInt8) : Nat := l.foldl (fun a c => a * 10 + (c.toNat - 48)) 0
theorem dec_dig (u : Nat) : ∀ c ∈ Lib.decDigits u, isDig c := by
  induction u using Nat.strongRecOn with
  | _ u ih =>
    intro c hc
    rw [Lib.decDigits] at hc
    split at hc
    · simp only [List.mem_singleton] at hc
      subst hc
      simp only [isDig, UInt8.toNat_ofNat']
      omega
    · rename_i h
      rw [List.mem_append, List.mem_singleton] at hc
      rcases hc with hc | rfl
      · exact ih _ (by omega) c hc
      · simp only [isDig, UInt8.toNat_ofNat']
        omega
theorem dval_dec (u : Nat) : dval (Lib.decDigits u) = u := by
  induction u using Nat.strongRecOn with
  | _ u ih =>
    rw [Lib.decDigits]
    split
    · rename_i h
      simp only [dval, List.foldl_cons, List.foldl_nil, UInt8.toNat_ofNat']
      omega
    · rename_i h
      have := ih (u / 10) (by omega)
      unfold dval at this ⊢
      rw [List.foldl_append, this]
      simp only [List.foldl_cons, List.foldl_nil, UInt8.toNat_ofNat']
      omega
theorem dec_inj {u v : Nat} (h : Lib.decDigits u = Lib.decDigits v) : u = v := by
  rw [<- dval_dec u, <- dval_dec v, h]
theorem itoa_nat (u : Nat) : Lib.itoa (u : Int) = Lib.decDigits u := by
  unfold Lib.itoa
  rw [if_neg (by omega), Int.toNat_natCast]
theorem itoa_len (u : Nat) : (Lib.itoa (u : Int)).length = Lib.nDigits u := by
  rw [itoa_nat, Lib.decDigits_eq]
  simp
theorem nDigits_le : ∀ (k u : Nat), 1 <= k -> u < 10 ^ k -> Lib.nDigits u <= k
  | 0, u, h, _ => absurd h (by omega)
  | 1, u, _, h => by rw [Lib.nDigits_small (by simpa using h)]; omega
  | k + 2, u, _, h => by
    by_cases h10 : u < 10
    · rw [Lib.nDigits_small h10]; omega
    · rw [Lib.nDigits_big h10]
      have := nDigits_le (k + 1) (u / 10) (by omega) (by rw [Nat.pow_succ] at h; omega)
      omega
def keyTail (l : List Nat) : List UInt8 := (l.map fun (u : Nat) => (32 : UInt8) :: Lib.itoa (u : Int)).flatten
def keyOf (c : Nat) (l : List Nat) : List UInt8 := Lib.itoa (c : Int) ++ keyTail l
theorem keyTail_snoc (l : List Nat) (u : Nat) : keyTail (l ++ [u]) = keyTail l ++ ((32 : UInt8) :: Lib.itoa (u : Int)) := by
  simp [keyTail]
theorem keyTail_head : ∀ (l : List Nat), keyTail l = [] ∨ ∃ r, keyTail l = 32 :: r
  | [] => .inl rfl
  | u :: l => .inr ⟨_, rfl⟩
theorem split_at : ∀ {a b x y : List UInt8}, (∀ c ∈ a, isDig c) -> (∀ c ∈ b, isDig c) -> (x = [] ∨ ∃ r, x = 32 :: r) -> (y = [] ∨ ∃ r, y = 32 :: r) -> a ++ x = b ++ y -> a = b ∧ x = y
  | [], [], x, y, _, _, _, _, h => ⟨rfl, h⟩
  | [], c :: b, x, y, _, hb, hx, _, h => by
    have hc : isDig c := hb c (by simp)
    rcases hx with rfl | ⟨r, rfl⟩
    · cases h
    · simp only [List.nil_append, List.cons_append, List.cons.injEq] at h
      obtain ⟨rfl, _⟩ := h
      exact absurd hc (by unfold isDig; decide)
  | c :: a, [], x, y, ha, _, _, hy, h => by
    have hc : isDig c := ha c (by simp)
    rcases hy with rfl | ⟨r, rfl⟩
    · cases h
    · simp only [List.nil_append, List.cons_append, List.cons.injEq] at h
      obtain ⟨rfl, _⟩ := h
      exact absurd hc (by unfold isDig; decide)
  | c :: a, d :: b, x, y, ha, hb, hx, hy, h => by
    simp only [List.cons_append, List.cons.injEq] at h
    obtain ⟨rfl, h⟩ := h
    obtain ⟨rfl, rfl⟩ := split_at (fun c hc => ha c (by simp [hc])) (fun c hc => hb c (by simp [hc])) hx hy h
    exact ⟨rfl, rfl⟩
theorem keyTail_inj : ∀ {l m : List Nat}, keyTail l = keyTail m -> l = m
  | [], [], _ => rfl
  | [], u :: m, h => by cases h
  | u :: l, [], h => by cases h
  | u :: l, v :: m, h => by
    have h : (32 : UInt8) :: (Lib.itoa (u : Int) ++ keyTail l) = 32 :: (Lib.itoa (v : Int) ++ keyTail m) := h
    simp only [List.cons.injEq, true_and] at h
    rw [itoa_nat, itoa_nat] at h
    obtain ⟨h1, h2⟩ := split_at (dec_dig u) (dec_dig v) (keyTail_head l) (keyTail_head m) h
    rw [dec_inj h1, keyTail_inj h2]
theorem keyOf_inj {c d : Nat} {l m : List Nat} (h : keyOf c l = keyOf d m) : c = d ∧ l = m := by
  unfold keyOf at h
  rw [itoa_nat, itoa_nat] at h
  obtain ⟨h1, h2⟩ := split_at (dec_dig c) (dec_dig d) (keyTail_head l) (keyTail_head m) h
  exact ⟨dec_inj h1, keyTail_inj h2⟩
theorem keyOf_len {c : Nat} {l : List Nat} {k : Nat} (hk : 1 <= k) (hc : c < 10 ^ k) (hl : ∀ u ∈ l, u < 10 ^ k) : (keyOf c l).length <= (l.length + 1) * (k + 1) := by
  unfold keyOf
  rw [List.length_append, itoa_len]
  have h1 := nDigits_le k c hk hc
  have h2 : (keyTail l).length <= l.length * (k + 1) := by
    clear hc h1
    induction l with
    | nil => simp [keyTail]
    | cons u l ih =>
      have h3 := nDigits_le k u hk (hl u (by simp))
      have := ih fun v hv => hl v (by simp [hv])
      have e : keyTail (u :: l) = 32 :: (Lib.itoa (u : Int) ++ keyTail l) := rfl
      rw [e, List.length_cons, List.length_append, itoa_len, List.length_cons, Nat.succ_mul]
      omega
  rw [Nat.succ_mul]
  omega
end Go.Proofs.Dfa
